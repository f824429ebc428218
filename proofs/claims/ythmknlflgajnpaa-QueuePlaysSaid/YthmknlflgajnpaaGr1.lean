/- The walk of QueueGrows. -/
import Derived.Test.YthmknlflgajnpaaGrP
import Derived.Test.YthmknlflgajnpaaQue10
import Derived.Laws.Bits128
namespace Go.Proofs.Ythmknlflgajnpaa
set_option linter.unusedVariables false
set_option linter.unusedSimpArgs false
open Go.RowKit
theorem i64_and31 (n : Int) : bits .and .i64 n 31 = n % 32 := by
  have h31 : (BitVec.ofInt 64 31).toNat = 2 ^ 5 - 1 := by decide
  have key : (BitVec.ofInt 64 n &&& BitVec.ofInt 64 31).toNat = (n % ((2 ^ 64 : Nat) : Int)).toNat % 2 ^ 5 := by
    rw [BitVec.toNat_and, BitVec.toNat_ofInt, h31, Nat.and_two_pow_sub_one_eq_mod]
  show IntKind.i64.wrap ((BitVec.ofInt 64 n &&& BitVec.ofInt 64 31).toNat : Nat) = n % 32
  rw [key, IntKind.wrap_i64]
  omega
set_option maxRecDepth 100000 in
set_option maxHeartbeats 1000000 in
theorem begin_bad (base top : Int) (w : World) (h : base < 1 ∨ top < base ∨ 1048576 < top) :
    Calls Try.prog 8 #[.int .i64 base, .int .i64 top] w fun e w' => ∃ p, e = .returned (.tuple #[.pointer none, p, .bool false]) ∧ Below w.heap.size w w' := by
  have H := Lib.hid h
  clear h
  go_enter Try.func8, Try.ntmps8
  go_wp2_with (go_at_call 26; refine (new_bad base top _ H.out).mono ?_; rintro e w1 ⟨rfl, hw⟩; have hw' := hw.symm; clear hw; subst hw')
  go_ret3
  exact ⟨_, rfl, bel_allocT _ _⟩
/-- the queue and the name's box, behind a world -/
structure GW (w0 : World) (qb xb : Nat) (r : Ref) (s : St) (d : QD) (w : World) : Prop where
  live : Live w0 qb s d w
  box : At qb d w xb r
theorem GW.below {w0 w w1 : World} {qb xb : Nat} {r : Ref} {s : St} {d : QD} (h : GW w0 qb xb r s d w) (hb : Below w.heap.size w w1) : GW w0 qb xb r s d w1 := ⟨h.live.below hb, h.box.below hb⟩
theorem GW.step {w0 w w1 : World} {qb xb : Nat} {r : Ref} {s s' : St} {d : QD} (h : GW w0 qb xb r s d w) (k : Step w0.heap.size qb d w s' w1) : ∃ d', GW w0 qb xb r s' d' w1 := by
  obtain ⟨d', h1, h2, h3, h4⟩ := h.live.step k
  exact ⟨d', h1, h3 _ _ h.box⟩
section
variable {w0 w : World} {qb xb : Nat} {r : Ref} {d : QD} {b t now due : Int} {f : Nat}
theorem gw_again (h : GW w0 qb xb r (g0 b t now r f) d w) (hb : 1 ≤ b ∧ b ≤ t ∧ t ≤ 1048576) (hnow : 0 ≤ now ∧ now ≤ 1099511627776) (hf : f ≤ 1000) :
    Calls Try.prog 16 #[.pointer (some ⟨qb, 0, none⟩), rv r] w fun e w' => e = .returned (.tuple #[]) ∧ ∃ d', GW w0 qb xb r (g1 b t now (now + rdelay b t f) r (f + 1)) d' w' := by
  have hn : num ((g0 b t now r f).mp 3) r = f := m3_num r f
  refine (again_any _ qb _ d r w h.live.1 (by show (0 : Nat) ≤ _; omega) (by show (0 : Nat) ≤ _; omega) hnow hb (by rw [hn]; omega)).mono ?_
  rintro e w' ⟨rfl, hs⟩
  rw [g_again b t now r f hb] at hs
  exact ⟨rfl, h.step hs⟩
theorem gw_wait (h : GW w0 qb xb r (g1 b t now due r f) d w) (m : Int) (h0 : 0 ≤ m) (h1 : m ≤ 1048576) (hnow : 0 ≤ now ∧ now ≤ 1099511627776) (hd : now + m < due) :
    Calls Try.prog 19 #[.pointer (some ⟨qb, 0, none⟩), .int .i64 m] w fun e w' => e = .returned (.tuple #[]) ∧ ∃ d', GW w0 qb xb r (g1 b t (now + m) due r f) d' w' := by
  refine (tick_any _ qb _ d m w h.live.1 (by show (0 : Nat) + 1 ≤ _; omega) hnow).mono ?_
  rintro e w' ⟨rfl, s', hp, hs⟩
  rw [clamp0_id h0 h1] at hp
  have := g_wait b t (now + m) due r f hd s' hp
  rw [this] at hs
  exact ⟨rfl, h.step hs⟩
theorem gw_comes (h : GW w0 qb xb r (g1 b t now due r f) d w) (m : Int) (h0 : 0 ≤ m) (h1 : m ≤ 1048576) (hnow : 0 ≤ now ∧ now ≤ 1099511627776) (hd : due ≤ now + m) :
    Calls Try.prog 19 #[.pointer (some ⟨qb, 0, none⟩), .int .i64 m] w fun e w' => e = .returned (.tuple #[]) ∧ ∃ d', GW w0 qb xb r (g2 b t (now + m) r f) d' w' := by
  refine (tick_any _ qb _ d m w h.live.1 (by show (0 : Nat) + 1 ≤ _; omega) hnow).mono ?_
  rintro e w' ⟨rfl, s', hp, hs⟩
  rw [clamp0_id h0 h1] at hp
  have := g_comes b t (now + m) due r f hd s' hp
  rw [this] at hs
  exact ⟨rfl, h.step hs⟩
theorem gw_get (h : GW w0 qb xb r (g2 b t now r f) d w) :
    Calls Try.prog 11 #[.pointer (some ⟨qb, 0, none⟩)] w fun e w' => e = .returned (.tuple #[rv r, .bool true]) ∧ ∃ d', GW w0 qb xb r (g3 b t now r f) d' w' := by
  obtain ⟨e1, e2⟩ := g_get b t now r f
  refine (get_is _ qb _ d w e1 h.live.1 (by show (1 : Nat) ≤ _; omega)).mono ?_
  rintro e w' ⟨rfl, hs⟩
  rw [e2] at hs
  exact ⟨rfl, h.step hs⟩
theorem gw_done (h : GW w0 qb xb r (g3 b t now r f) d w) :
    Calls Try.prog 14 #[.pointer (some ⟨qb, 0, none⟩), rv r] w fun e w' => e = .returned (.tuple #[]) ∧ ∃ d', GW w0 qb xb r (g0 b t now r f) d' w' := by
  refine (done_any _ qb _ d r w h.live.1 (by show (0 : Nat) ≤ _; omega)).mono ?_
  rintro e w' ⟨rfl, hs⟩
  rw [g_done] at hs
  exact ⟨rfl, h.step hs⟩
theorem gw_forget (h : GW w0 qb xb r (g0 b t now r f) d w) :
    Calls Try.prog 20 #[.pointer (some ⟨qb, 0, none⟩), rv r] w fun e w' => e = .returned (.tuple #[]) ∧ ∃ d', GW w0 qb xb r (g0 b t now r 0) d' w' := by
  refine (forget_any _ qb _ d r w h.live.1).mono ?_
  rintro e w' ⟨rfl, hs⟩
  rw [g_forget] at hs
  exact ⟨rfl, h.step hs⟩
theorem gw_waiting1 (h : GW w0 qb xb r (g1 b t now due r f) d w) : Calls Try.prog 17 #[.pointer (some ⟨qb, 0, none⟩)] w fun e w' => e = .returned (.int .i64 1) ∧ w = w' :=
  (waiting_any _ qb _ d w h.live.1).mono fun _ _ ⟨h1, h2⟩ => ⟨h1, h2.symm⟩
theorem gw_waiting0 (h : GW w0 qb xb r (g3 b t now r f) d w) : Calls Try.prog 17 #[.pointer (some ⟨qb, 0, none⟩)] w fun e w' => e = .returned (.int .i64 0) ∧ w = w' :=
  (waiting_any _ qb _ d w h.live.1).mono fun _ _ ⟨h1, h2⟩ => ⟨h1, h2.symm⟩
theorem gw_len0 (h : GW w0 qb xb r (g1 b t now due r f) d w) : Calls Try.prog 18 #[.pointer (some ⟨qb, 0, none⟩)] w fun e w' => e = .returned (.int .i64 0) ∧ w = w' :=
  (len_any _ qb _ d w h.live.1).mono fun _ _ ⟨h1, h2⟩ => ⟨h1, h2.symm⟩
theorem gw_len1 (h : GW w0 qb xb r (g2 b t now r f) d w) : Calls Try.prog 18 #[.pointer (some ⟨qb, 0, none⟩)] w fun e w' => e = .returned (.int .i64 1) ∧ w = w' :=
  (len_any _ qb _ d w h.live.1).mono fun _ _ ⟨h1, h2⟩ => ⟨h1, h2.symm⟩
theorem gw_fails (h : GW w0 qb xb r (g2 b t now r f) d w) : Calls Try.prog 21 #[.pointer (some ⟨qb, 0, none⟩), rv r] w fun e w' => e = .returned (.int .i64 f) ∧ Below w.heap.size w w' := by
  refine (fails_any _ qb _ d r w h.live.1).mono ?_
  rintro e w' ⟨rfl, hb⟩
  rw [show (g2 b t now r f).mp 3 = m3 r f from rfl, m3_num]
  exact ⟨rfl, hb⟩
end
set_option maxRecDepth 100000 in
set_option maxHeartbeats 4000000 in
theorem grows_bad (base top n : Int) (r : Ref) (w : World) (h : base < 1 ∨ top < base ∨ 1048576 < top) :
    Calls Try.prog 4 #[.int .i64 base, .int .i64 top, .int .i64 n, rv r] w fun e w' => e = .returned (.bool true) ∧ Below w.heap.size w w' := by
  obtain ⟨k, nm⟩ := r
  have hb0 := Lib.hid (bel_allocT w (.cells #[.int .i64 k, .string nm] 30))
  have H := Lib.hid h
  unfold rv
  by_cases h1 : base < 1
  · have t1 : decide (base < 1) = true := decide_eq_true h1
    clear h h1
    go_enter Try.func4, Try.ntmps4
    go_wp2_with (first | (go_at_call 7; refine (awake_any _).mono ?_; rintro e w1 ⟨rfl, hb1⟩) | (go_at_call 8; refine (begin_bad base top _ H.out).mono ?_; rintro e w2 ⟨p, rfl, hb2⟩))
    go_ret
    exact ⟨rfl, G.bthen (G.bthen hb0.out hb1) hb2⟩
  · have t1 : decide (base < 1) = false := decide_eq_false h1
    by_cases h2 : top < base
    · have t2 : decide (top < base) = true := decide_eq_true h2
      clear h h1 h2
      go_enter Try.func4, Try.ntmps4
      go_wp2_with (first | (go_at_call 7; refine (awake_any _).mono ?_; rintro e w1 ⟨rfl, hb1⟩) | (go_at_call 8; refine (begin_bad base top _ H.out).mono ?_; rintro e w2 ⟨p, rfl, hb2⟩))
      go_ret
      exact ⟨rfl, G.bthen (G.bthen hb0.out hb1) hb2⟩
    · have t2 : decide (top < base) = false := decide_eq_false h2
      have t3 : decide (1048576 < top) = true := decide_eq_true (by omega)
      clear h h1 h2
      go_enter Try.func4, Try.ntmps4
      go_wp2_with (first | (go_at_call 7; refine (awake_any _).mono ?_; rintro e w1 ⟨rfl, hb1⟩) | (go_at_call 8; refine (begin_bad base top _ H.out).mono ?_; rintro e w2 ⟨p, rfl, hb2⟩))
      go_ret
      exact ⟨rfl, G.bthen (G.bthen hb0.out hb1) hb2⟩
theorem gw_start {w0 w1 : World} {qb xb : Nat} {r : Ref} {d : QD} {b t : Int} (o : Obj) (hx : w0.heap[xb]? = some (.cells #[.int .i64 r.kind, .string r.name] 30 (0, 0))) (hI : Inv w0.heap.size qb (St0 b t) d w1) (hb : Below w0.heap.size w0 w1) : GW w0 qb xb r (g0 b t 0 r 0) d (w1.alloc o) := by
  have e : St0 b t = g0 b t 0 r 0 := by
    unfold St0 g0
    congr 1
    exact mps_eq _ rfl rfl rfl rfl
  rw [e] at hI
  have hl : xb < w0.heap.size := (Array.getElem?_eq_some_iff.1 hx).1
  refine GW.below ⟨⟨hI, hb⟩, Nat.lt_of_lt_of_le hl hb.size, fun hf => ?_, (hb.block xb hl).trans hx⟩ (bel_allocT _ _)
  have := hI.foot_B hf
  omega
set_option maxRecDepth 100000 in
set_option maxHeartbeats 4000000 in
theorem grows_long (base top n : Int) (r : Ref) (w : World) (h : 1 ≤ base ∧ base ≤ top ∧ top ≤ 1048576) (hr : 200 < r.name.size) :
    Calls Try.prog 4 #[.int .i64 base, .int .i64 top, .int .i64 n, rv r] w fun e w' => e = .returned (.bool true) ∧ Below w.heap.size w w' := by
  obtain ⟨k, nm⟩ := r
  obtain ⟨W, hW⟩ : ∃ W, W = w.alloc (.cells #[.int .i64 k, .string nm] 30) := ⟨_, rfl⟩
  have hb0 := Lib.hid (show Below w.heap.size w W by rw [hW]; exact bel_allocT w _)
  have hx : W.heap[w.heap.size]? = some (.cells #[.int .i64 k, .string nm] 30 (0, 0)) := by rw [hW]; exact G.heap_new _ _
  have HX := Lib.hid hx
  have HW := Lib.hid hW
  have H := Lib.hid h
  have t1 : decide (base < 1) = false := decide_eq_false (by omega)
  have t2 : decide (top < base) = false := decide_eq_false (by omega)
  have t3 : decide (1048576 < top) = false := decide_eq_false (by omega)
  have t4 : decide ((200 : Int) < (nm.size : Int)) = true := decide_eq_true (by show (200 : Int) < _; have : 200 < nm.size := hr; omega)
  have t5 : decide (200 < nm.size) = true := decide_eq_true hr
  have hxl : w.heap.size < W.heap.size := (Array.getElem?_eq_some_iff.1 hx).1
  obtain ⟨xb, hxb⟩ : ∃ xb, xb = w.heap.size := ⟨_, rfl⟩
  rw [← hxb] at HX hxl
  have HXB := Lib.hid hxb
  unfold rv
  clear hW hx h hr hxb
  go_enter Try.func4, Try.ntmps4
  go_upto_region 1 with (fail)
  rw [← HW.out, ← HXB.out]
  have q : ∀ V : World, Below W.heap.size W V → V.cell? ⟨xb, 1, none⟩ = some (.string nm) := fun V hV => G.cell_below hV (by simp [World.cell?, HX.out])
  have QQ := Lib.hid q
  clear q
  go_wp2_with (first | (go_at_call 7; refine (awake_any _).mono ?_; rintro e w1 ⟨rfl, hb1⟩) | (go_at_call 8; refine (begin_any base top _ H.out).mono ?_; rintro e w3 ⟨qb, d, w2, rfl, hI, hb2, rfl⟩; have hb3 := G.bthen hb1 hb2; have q := QQ.out _ (G.bthen hb3 (bel_allocT _ (.cells #[.int .i64 base, .int .i64 top, .int .i64 0, .slice none 0 0, .slice none 0 0, .slice none 0 0, .slice none 0 0, .slice none 0 0] 50)))))
  go_ret
  exact ⟨rfl, G.bthen (G.bthen hb0.out hb3) (bel_allocT _ _)⟩
set_option maxRecDepth 100000 in
set_option maxHeartbeats 8000000 in
theorem grows_main (base top n : Int) (r : Ref) (w : World) (h : 1 ≤ base ∧ base ≤ top ∧ top ≤ 1048576) (hr : r.name.size ≤ 200) :
    Calls Try.prog 4 #[.int .i64 base, .int .i64 top, .int .i64 n, rv r] w fun e w' => e = .returned (.bool true) ∧ Below w.heap.size w w' := by
  obtain ⟨k, nm⟩ := r
  obtain ⟨W, hW⟩ : ∃ W, W = w.alloc (.cells #[.int .i64 k, .string nm] 30) := ⟨_, rfl⟩
  have hb0 := Lib.hid (show Below w.heap.size w W by rw [hW]; exact bel_allocT w _)
  have hx : W.heap[w.heap.size]? = some (.cells #[.int .i64 k, .string nm] 30 (0, 0)) := by rw [hW]; exact G.heap_new _ _
  have HX := Lib.hid hx
  have HW := Lib.hid hW
  have H := Lib.hid h
  have t4 : decide (200 < nm.size) = false := decide_eq_false (by show ¬ 200 < nm.size; have : nm.size ≤ 200 := hr; omega)
  have hxl : w.heap.size < W.heap.size := (Array.getElem?_eq_some_iff.1 hx).1
  obtain ⟨xb, hxb⟩ : ∃ xb, xb = w.heap.size := ⟨_, rfl⟩
  rw [← hxb] at HX hxl
  have HXB := Lib.hid hxb
  obtain ⟨N, hN⟩ : ∃ N, N = n % 32 := ⟨_, rfl⟩
  have hNb : 0 ≤ N ∧ N ≤ 31 := by omega
  have hbn : bits .and .i64 n 31 = N := by rw [i64_and31, hN]
  have HBN := Lib.hid hbn
  obtain ⟨hN0, hN1⟩ := hNb
  obtain ⟨h1, h2, h3⟩ := h
  unfold rv
  clear hW hx hxb hN hbn
  go_enter Try.func4, Try.ntmps4
  go_upto_region 1 with (fail)
  rw [← HW.out, ← HXB.out]
  have q : ∀ V : World, Below W.heap.size W V → V.cell? ⟨xb, 1, none⟩ = some (.string nm) := fun V hV => G.cell_below hV (by simp [World.cell?, HX.out])
  have QQ := Lib.hid q
  clear q
  go_upto_region 4 with (first | (go_at_call 7; refine (awake_any _).mono ?_; rintro e w1 ⟨rfl, hb1⟩; have HB1 := Lib.hid hb1; clear hb1) | (go_at_call 8; refine (begin_any base top _ H.out).mono ?_; rintro e w3 ⟨qb, d, w2, rfl, hI, hb2, rfl⟩))
  have hx1 : w1.heap[xb]? = some (.cells #[.int .i64 k, .string nm] 30 (0, 0)) := (HB1.out.block xb hxl).trans HX.out
  have hG := gw_start (r := ⟨k, nm⟩) (.cells #[.int .i64 base, .int .i64 top, .int .i64 0, .slice none 0 0, .slice none 0 0, .slice none 0 0, .slice none 0 0, .slice none 0 0] 50) hx1 hI hb2
  clear hI hb2 hx1
  have q1 := hG.box.cell1
  have HG := Lib.hid hG
  have hbn := HBN.out
  clear hG
  go_upto_block 0 with (fail)
  clear hbn q1
  go_wp2_with (fail)
  go_loopw [8, 12, 13, 14, 15] (fun _ want i _ _ wr => ∃ (f : Nat) (d : QD) (now D : Int), i = .int .i64 f ∧ want = .int .i64 D ∧ Hid (D = rdelay base top f) ∧ (f : Int) ≤ N + 1 ∧ Hid (0 ≤ now ∧ now ≤ f * 1048576) ∧ Hid (GW w1 qb xb ⟨k, nm⟩ (g0 base top now ⟨k, nm⟩ f) d wr)) (fun _ _ i _ _ _ => (N + 1 - intOf i).toNat)
  case atStart => exact ⟨0, d, 0, base, by go_num, rfl, Lib.hid (want_first H.out).symm, by omega, Lib.hid (by omega), HG⟩
  case round =>
    obtain ⟨f, d, now, D, rfl, rfl, HD, hf, HN, HGr⟩ := hrel
    have hdb := rdelay_bd H.out f
    rw [← HD.out] at hdb
    obtain ⟨hd1, hd2⟩ := hdb
    have b0 := HGr.out.box.cell0
    have b1 := HGr.out.box.cell1
    by_cases hlt : (f : Int) ≤ N
    · have d1 : decide ((f : Int) ≤ N) = true := decide_eq_true hlt
      have HLT := Lib.hid hlt
      have C16 := Lib.hid (gw_again HGr.out H.out (by have := HN.out; omega) (by omega))
      unfold rv at C16
      clear hlt
      go_upto_region 12 with (go_at_call 16; refine C16.out.mono ?_; rintro e v1 ⟨rfl, hs⟩)
      obtain ⟨d2, G1⟩ := hs
      rw [← HD.out] at G1
      have HG1 := Lib.hid G1
      have C17 := Lib.hid (gw_waiting1 G1)
      have C18 := Lib.hid (gw_len0 G1)
      have C19 := Lib.hid (gw_wait G1 (D - 1) (by omega) (by omega) (by have := HN.out; omega) (by omega))
      clear G1 b0 b1
      go_upto_region 15 with (first | (go_at_call 17; refine C17.out.mono ?_; rintro e v2 ⟨rfl, rfl⟩) | (go_at_call 18; refine C18.out.mono ?_; rintro e v3 ⟨rfl, rfl⟩) | (go_at_call 19; refine C19.out.mono ?_; rintro e v4 ⟨rfl, hs⟩))
      obtain ⟨d3, G2⟩ := hs
      have HG2 := Lib.hid G2
      have C18b := Lib.hid (gw_len0 G2)
      have C19b := Lib.hid (gw_comes G2 1 (by omega) (by omega) (by have := HN.out; omega) (by omega))
      clear G2 C17 C18 C19
      go_upto_region 18 with (first | (go_at_call 18; refine C18b.out.mono ?_; rintro e v5 ⟨rfl, rfl⟩) | (go_at_call 19; refine C19b.out.mono ?_; rintro e v6 ⟨rfl, hs⟩))
      obtain ⟨d4, G3⟩ := hs
      have C11 := Lib.hid (gw_get G3)
      unfold rv at C11
      clear G3 C18b C19b
      go_upto_region 19 with (go_at_call 11; refine C11.out.mono ?_; rintro e v7 ⟨rfl, hs⟩)
      obtain ⟨d5, G4⟩ := hs
      have G5 := G4.below (bel_allocT _ (.cells #[.int .i64 k, .string nm] 30))
      have b0 := G5.box.cell0
      have b1 := G5.box.cell1
      have heq := run_ne_ref ⟨k, nm⟩ ⟨k, nm⟩
      unfold rv at heq
      rw [decide_eq_true rfl] at heq
      have C17 := Lib.hid (gw_waiting0 G5)
      have C14 := Lib.hid (gw_done G5)
      unfold rv at C14
      clear G4 G5
      have hnx := want_next H.out f
      rw [← HD.out] at hnx
      have HNX := Lib.hid hnx
      clear hnx
      go_upto_region 22 with (first | (go_at_call 17; refine C17.out.mono ?_; rintro e v8 ⟨rfl, rfl⟩) | (go_at_call 14; refine C14.out.mono ?_; rintro e v9 ⟨rfl, hs⟩))
      obtain ⟨d6, G6⟩ := hs
      have HG6 := Lib.hid G6
      clear G6
      go_wp2
      go_roundw
      case rel => exact ⟨f + 1, d6, _, _, by go_num, rfl, Lib.hid HNX.out, by have := HLT.out; omega, Lib.hid (by have := HN.out; have := HD.out; push_cast; omega), HG6⟩
      case measure => have := HLT.out; simp [intOf]; omega
    · have hNf : (f : Int) = N + 1 := by omega
      have C20 := Lib.hid (gw_forget HGr.out)
      unfold rv at C20
      have HNF := Lib.hid hNf
      have d1 : decide ((f : Int) ≤ N) = false := decide_eq_false (by omega)
      clear hNf
      go_upto_region 24 with (go_at_call 20; refine C20.out.mono ?_; rintro e v1 ⟨rfl, hs⟩)
      obtain ⟨d2, G1⟩ := hs
      have C16 := Lib.hid (gw_again G1 H.out (by have := HN.out; have := HNF.out; omega) (by omega))
      unfold rv at C16
      have b0 := G1.box.cell0
      have b1 := G1.box.cell1
      clear G1
      go_upto_region 25 with (go_at_call 16; refine C16.out.mono ?_; rintro e v2 ⟨rfl, hs⟩)
      obtain ⟨d3, G2⟩ := hs
      rw [show ((0 : Nat) : Int) = 0 from rfl, want_first H.out] at G2
      have C19 := Lib.hid (gw_comes G2 base (by omega) (by omega) (by have := HN.out; have := HNF.out; omega) (by omega))
      clear G2
      go_upto_region 26 with (go_at_call 19; refine C19.out.mono ?_; rintro e v3 ⟨rfl, hs⟩)
      obtain ⟨d4, G3⟩ := hs
      have HG3 := Lib.hid G3
      have b0 := G3.box.cell0
      have b1 := G3.box.cell1
      have C18 := Lib.hid (gw_len1 G3)
      have C21 := Lib.hid (gw_fails G3)
      unfold rv at C21
      clear G3
      go_wp2_with (first | (go_at_call 18; refine C18.out.mono ?_; rintro e v4 ⟨rfl, rfl⟩) | (go_at_call 21; refine C21.out.mono ?_; rintro e v5 ⟨rfl, hb5⟩))
      go_ret
      exact ⟨rfl, G.bthen (G.bthen hb0.out HB1.out) ((HG3.out.below hb5).live.2)⟩
theorem grows_any (base top n : Int) (r : Ref) (w : World) :
    Calls Try.prog 4 #[.int .i64 base, .int .i64 top, .int .i64 n, rv r] w fun e w' => e = .returned (.bool true) ∧ Below w.heap.size w w' := by
  by_cases h : 1 ≤ base ∧ base ≤ top ∧ top ≤ 1048576
  · by_cases hr : r.name.size ≤ 200
    · exact grows_main base top n r w h hr
    · exact grows_long base top n r w h (by omega)
  · exact grows_bad base top n r w (by omega)
theorem ref_arg {H : Type} {enc : TypeId × Value → H} {W : World} {base : Nat} {sp : Nat → Bool} {held : Bool} {v : Value} {d : DataW H} {ps : List MemPlace}
    (h : DataW.Trod enc Try.prog W base sp held 30 v d ps) : ∃ x : Ref, v = .agg #[.int .i64 x.kind, .string x.name] := by
  obtain ⟨fuel, hf⟩ := h
  obtain ⟨_, _, _, _, hl, _⟩ := ChangeShapes.trod_struct2 Try.underlying30 hf
  rw [cells30] at hl
  obtain ⟨x, hx⟩ := ref_opens _ _ _ (by simpa using hl) hf
  refine ⟨x, ?_⟩
  cases v with
  | agg cs =>
    simp [Value.cells, rc] at hx
    have : cs = #[.int .i64 x.kind, .string x.name] := by
      apply Array.toList_inj.1; simpa using hx
    rw [this]
  | _ => simp [Value.cells, rc] at hx
end Go.Proofs.Ythmknlflgajnpaa
