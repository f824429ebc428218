/- Responses: packed, unpacked, their bytes. -/
import Derived.Test.YtolndeolehkjoaaWpPd
import Derived.Test.YtolndeolehkjoaaUa1c
namespace Go.Proofs.Ytolndeolehkjoaa
set_option linter.unusedVariables false
set_option linter.unusedSimpArgs false
open Go.RowKit CodP
/-- what a walk through a region keeps: a box, the world below, cells that were made -/
structure KB (x : Nat) (o : Obj) (w1 : World) (L : List (Addr × Value)) (V : World) : Prop where
  is : V.heap[x]? = some o
  b : Below w1.heap.size w1 V
  l : ∀ p ∈ L, V.cell? p.1 = some p.2
  lt : x < w1.heap.size
theorem KB.next {x : Nat} {o : Obj} {w1 V V' : World} {L : List (Addr × Value)} (h : KB x o w1 L V) (hb : Below V.heap.size V V') : KB x o w1 L V' :=
  ⟨(hb.block x (Nat.lt_of_lt_of_le h.lt h.b.size)).trans h.is, G.bthen h.b hb, fun p hp => G.cell_below hb (h.l p hp), h.lt⟩
theorem KB.add {x : Nat} {o : Obj} {w1 V : World} {L : List (Addr × Value)} (h : KB x o w1 L V) {a : Addr} {v : Value} (hc : V.cell? a = some v) : KB x o w1 ((a, v) :: L) V :=
  ⟨h.is, h.b, fun p hp => by rcases List.mem_cons.1 hp with rfl | hp; exact hc; exact h.l p hp, h.lt⟩
theorem KB.weak {x : Nat} {o : Obj} {w1 V : World} {L : List (Addr × Value)} {q : Addr × Value} (h : KB x o w1 (q :: L) V) : KB x o w1 L V :=
  ⟨h.is, h.b, fun p hp => h.l p (List.mem_cons_of_mem _ hp), h.lt⟩
theorem KB.drew {x : Nat} {o : Obj} {w1 V : World} {L : List (Addr × Value)} (h : KB x o w1 L V) : KB x o w1 L V.drew := ⟨h.is, G.bdrew h.b, h.l, h.lt⟩
theorem rc_one (r : RE) : (rc r).all (·.oneCell') = true := by simp [rc, Value.oneCell']
theorem RE.lens_of {r : RE} (h : RightP r.p) : r.lens := by
  have := h.len
  have e : r.p.l.length = r.L.length := List.length_map _
  exact ⟨by omega, fun e he => shape_len e.o (h.shape e.o (List.mem_map_of_mem he))⟩
theorem sl19 (s : ByteArray) (h : 9 ≤ s.size) (W : World) : (Instr.slice 9 (.string s) (some (.int .i64 1)) (some (.int .i64 9)) none).run Try.prog W = .ok (.string (numS s)) W := by
  exact run_slice_string (P := Try.prog) W 9 s .i64 .i64 1 9 Try.underlying9 (by omega) (by omega) (by omega)
theorem sl9 (s : ByteArray) (h : 9 ≤ s.size) (W : World) : (Instr.slice 9 (.string s) (some (.int .i64 9)) none none).run Try.prog W = .ok (.string (objS s)) W := sl1 s 9 9 rfl h W
theorem bel_allocRow60 (w : World) (cs ds : Array Value) : Below w.heap.size w ((w.alloc (.cells cs 60)).setRow w.heap.size ds) := bel_allocRow w cs ds 60
set_option maxRecDepth 100000 in
set_option maxHeartbeats 8000000 in
theorem rpb_any (r : RE) (hb : rightRp r.p = true) (w : World) (hr : ObsR w r.A r.L) :
    Calls Try.prog 39 #[.agg (rc r)] w fun y w' => y = .returned (.string (bytesRp r.p)) ∧ Below w.heap.size w w' := by
  obtain ⟨w1, hw1, b1, p1⟩ := box60 w (rc r)
  obtain ⟨x, hx⟩ : ∃ x, x = w.heap.size := ⟨_, rfl⟩
  rw [← hx] at p1
  have hf := rightP hb
  have hl := RE.lens_of hf
  have hq : bytesRp r.p = bB r.err ++ num8 r.ver.toNat ++ bytesAll (r.L.map (·.o)) := rfl
  have HQ := Lib.hid hq
  have hln : r.p.l.length = r.L.length := List.length_map _
  have h200 := hf.len
  have vlo : 0 ≤ r.ver := hf.ver.1
  have vhi : r.ver ≤ 1099511627776 := hf.ver.2
  have g1 : 0 ≤ r.err := hf.err.1
  have g2 : r.err ≤ 255 := hf.err.2
  have HF := Lib.hid hf
  have RR := Lib.hid (hr.below b1)
  have HW := Lib.hid hw1
  have B1 := Lib.hid b1
  have kb : KB x (.cells (rc r) 60 (0, 0)) w1 [] w1 := ⟨p1, Below.refl _ _, by simp, (Array.getElem?_eq_some_iff.1 p1).1⟩
  have KB1 := Lib.hid kb
  have hl200 : r.L.length ≤ 200 := by omega
  clear b1 p1 hw1 hr hl hb hf hq hln h200 kb
  have wk := u8w (n := r.err) (by omega) (by omega)
  have z0 : (bB r.err).size = 1 := bB_size _
  have z1 : (num8 r.ver.toNat).size = 8 := num8_size _
  have z2 : (bB r.err ++ num8 r.ver.toNat).size = 9 := by rw [ByteArray.size_append, z0, z1]
  go_enter Try.func39, Try.ntmps39
  go_upto_region 1 with (fail)
  rw [← HW.out, ← hx]
  clear hx
  go_cut [3] from 5 to 14 (fun v w' => v = .string (bB r.err ++ num8 r.ver.toNat) ∧ Hid (w'.heap[x]? = some (.cells (rc r) 60 (0, 0)) ∧ Below w1.heap.size w1 w'))
  case first =>
    refine wp_region_held_drew (S := KB x (.cells (rc r) 60 (0, 0)) w1 []) (by kernel_rfl) KB1.out.drew (fun hS0 => ?_)
    refine tk 0 5 (.pointer (some ⟨x, 0, none⟩)) ?_; (try simp only [s1, s2, s3]); refine tk 1 6 (.int .i64 r.err) ?_ (hv := by (intro V hV; have hc := at0 hV.is; clear hV; go_simp; try rfl)); (try simp only [s1, s2, s3]); refine tk 2 7 (.int .u8 (r.err)) ?_; (try simp only [s1, s2, s3]); refine tk 5 10 (.pointer (some ⟨x, 1, none⟩)) ?_; (try simp only [s1, s2, s3]); refine tk 6 11 (.int .i64 r.ver) ?_ (hv := by (intro V hV; have hc := at1 hV.is; clear hV; go_simp; try rfl)); (try simp only [s1, s2, s3])
    refine wpAnyH_ready (rs := [3, 7]) (by kernel_rfl) (by simp) ?_
    refine AllReadyH.cons rfl (fun K hK => ?_) ?_
    · rw [if_pos (by rfl)]
      refine wp_build1 8 7 (r.err) rfl rfl rfl ?_
      intro b1 v1 hc1 hb1
      refine hK.out _ _ (KB.next (by assumption) hb1) (fun hHeld => ?_)
      clear hK K
      have hHeld := KB.add hHeld hc1
      refine wpAnyH_str (S' := KB x (.cells (rc r) 60 (0, 0)) w1 [(⟨b1, 0, none⟩, .int .u8 (r.err))]) (fun V h => h.weak) _ _ _ _ ?_
      try simp only [Act.put, s1, s2, s3]
      refine tk 4 9 (.string (bB (r.err))) ?_ (hv := by (intro V hV; have hc := conv1 (r.err) V b1 (hV.l (⟨b1, 0, none⟩, .int .u8 (r.err)) (by simp)); clear hV; go_simp; try rfl)); (try simp only [s1, s2, s3])
      refine wpAnyH_ready (rs := [7]) (by kernel_rfl) (by simp) ?_
      refine AllReadyH.cons rfl (fun K hK => ?_) ?_
      · rw [if_pos (by rfl)]
        go_simp
        go_at_call 14
        refine (rnumI_any r.ver vlo (by omega) _).mono ?_
        rintro e v2 ⟨rfl, hb2⟩
        dsimp only
        refine hK.out _ _ (KB.next (by assumption) hb2) (fun hHeld => ?_)
        clear hK K; try simp only [Act.put, s1, s2, s3]
        refine tk 8 13 (.string (bB r.err ++ num8 r.ver.toNat)) ?_ (hv := by (intro V hV; clear hV; go_simp; (try first | rfl | omega))); (try simp only [s1, s2, s3]); refine tk 9 3 (.string (bB r.err ++ num8 r.ver.toNat)) ?_; (try simp only [s1, s2, s3])
        refine wpAnyH_done (by kernel_rfl) ?_ _
        have HE := Lib.hid hHeld
        repeat clear hHeld
        clear hS0
        go_wp2
        go_meet
        case rel => exact ⟨rfl, Lib.hid ⟨HE.out.is, HE.out.b⟩⟩
      exact AllReadyH.nil
    refine AllReadyH.cons rfl (fun K hK => ?_) ?_
    · rw [if_pos (by rfl)]
      go_simp
      go_at_call 14
      refine (rnumI_any r.ver vlo (by omega) _).mono ?_
      rintro e v3 ⟨rfl, hb3⟩
      dsimp only
      refine hK.out _ _ (KB.next (by assumption) hb3) (fun hHeld => ?_)
      clear hK K; try simp only [Act.put, s1, s2, s3]
      refine wpAnyH_ready (rs := [3]) (by kernel_rfl) (by simp) ?_
      refine AllReadyH.cons rfl (fun K hK => ?_) ?_
      · rw [if_pos (by rfl)]
        refine wp_build1 8 7 (r.err) rfl rfl rfl ?_
        intro b4 v4 hc4 hb4
        refine hK.out _ _ (KB.next (by assumption) hb4) (fun hHeld => ?_)
        clear hK K
        have hHeld := KB.add hHeld hc4
        refine wpAnyH_str (S' := KB x (.cells (rc r) 60 (0, 0)) w1 [(⟨b4, 0, none⟩, .int .u8 (r.err))]) (fun V h => h.weak) _ _ _ _ ?_
        try simp only [Act.put, s1, s2, s3]
        refine tk 4 9 (.string (bB (r.err))) ?_ (hv := by (intro V hV; have hc := conv1 (r.err) V b4 (hV.l (⟨b4, 0, none⟩, .int .u8 (r.err)) (by simp)); clear hV; go_simp; try rfl)); (try simp only [s1, s2, s3]); refine tk 8 13 (.string (bB r.err ++ num8 r.ver.toNat)) ?_ (hv := by (intro V hV; clear hV; go_simp; (try first | rfl | omega))); (try simp only [s1, s2, s3]); refine tk 9 3 (.string (bB r.err ++ num8 r.ver.toNat)) ?_; (try simp only [s1, s2, s3])
        refine wpAnyH_done (by kernel_rfl) ?_ _
        have HE := Lib.hid hHeld
        repeat clear hHeld
        clear hS0
        go_wp2
        go_meet
        case rel => exact ⟨rfl, Lib.hid ⟨HE.out.is, HE.out.b⟩⟩
      exact AllReadyH.nil
    exact AllReadyH.nil
  obtain ⟨rfl, HC⟩ := hcut
  clear wk z0 z1
  go_wp2
  go_loopw [3, 4] (fun sv i wr => ∃ (k : Nat) (b : ByteArray), k ≤ r.L.length ∧ i = .int .i64 k ∧ sv = .string b ∧ b.size ≤ 9 + 20000 * k ∧ Hid (b = bB r.err ++ num8 r.ver.toNat ++ bytesAll ((r.L.take k).map (·.o)) ∧ wr.heap[x]? = some (.cells (rc r) 60 (0, 0)) ∧ Below w1.heap.size w1 wr)) (fun _ i _ => r.L.length - (intOf i).toNat)
  case atStart => exact ⟨0, _, Nat.zero_le _, rfl, rfl, by omega, Lib.hid ⟨by simp [bytesAll, CodP.append_nil], HC.out⟩⟩
  case round =>
    obtain ⟨k, b, hk, rfl, rfl, hbz, H⟩ := hrel
    have c2 := at2 H.out.2.1
    by_cases hkn : k < r.L.length
    · obtain ⟨e, he⟩ : ∃ e, r.L[k]? = some e := ⟨_, List.getElem?_eq_getElem hkn⟩
      obtain ⟨g, p, hA, hrg, hrows⟩ := (RR.out.below H.out.2.2).at he
      rw [hA] at c2
      have hsh := HF.out.shape e.o (List.mem_map_of_mem (List.mem_of_getElem? he))
      have hbe := bytesS_le e.o hsh
      have HE := Lib.hid he
      have HRG := Lib.hid hrg
      have C1 := Lib.hid (rbytes_any e.o e.f e.l e.c e.p e.i (fits_of e.o hsh) wr hrows)
      clear he hrg hrows hA hsh
      obtain ⟨te, hte⟩ : ∃ te, te = bytesS e.o := ⟨_, rfl⟩
      rw [← hte] at C1 hbe
      have HTE := Lib.hid hte
      clear hte
      go_upto_region 5 with (fail)
      repeat (first | ((refine wpList_load_elem rfl (.tmp 25) rfl g (p + k * 19) rfl e HRG.out ?_); (try simp only [Act.put, s1, s2, s3])) | go_values | go_skip | go_guarded | go_step)
      go_wp2_with (fail)
      refine C1.out.mono ?_
      clear c2
      rintro y w3 ⟨rfl, hb3⟩
      have HB3 := Lib.hid hb3
      clear hb3
      go_wp2
      go_roundw
      case rel =>
        refine ⟨k + 1, _, by omega, by go_num, rfl, by rw [ByteArray.size_append]; omega, Lib.hid ⟨?_, (HB3.out.block x (Array.getElem?_eq_some_iff.1 H.out.2.1).1).trans H.out.2.1, G.bthen H.out.2.2 HB3.out⟩⟩
        rw [List.take_add_one, HE.out, List.map_append, H.out.1, HTE.out]
        show _ = _ ++ bytesAll (_ ++ [e.o])
        rw [bytesAll_snoc, CodP.append_assoc3 _ (bytesAll _)]
      case measure => simp [intOf]; omega
    · obtain rfl : k = r.L.length := by omega
      have hn := H.out.1
      rw [List.take_length] at hn
      have HN := Lib.hid hn
      have HB := Lib.hid H.out.2.2
      clear hn hkn hk H
      go_wp2
      go_ret
      exact ⟨by rw [HQ.out, ← HN.out]; rfl, B1.out.trans (belowLe B1.out.size HB.out)⟩
def r0 : RE := ⟨0, 0, [], none, 0⟩
theorem ObsR.nil (w : World) : ObsR w none [] := ⟨RowR.nil _ _, by simp⟩
set_option maxRecDepth 100000 in
set_option maxHeartbeats 8000000 in
theorem unpackp_s (s : ByteArray) (h : s.size < 9) (w : World) :
    Calls Try.prog 38 #[.string s] w fun y w' => ∃ r : RE, y = .returned (.tuple #[.agg (rc r), .int .i64 (unpackRp s).2]) ∧ r.p = (unpackRp s).1 ∧ ObsR w' r.A r.L ∧ Below w.heap.size w w' := by
  obtain ⟨w1, hw1, b1, p1⟩ := box60 w #[.int .i64 0, .int .i64 0, .slice none 0 0]
  obtain ⟨y, hy⟩ : ∃ y, y = w.heap.size := ⟨_, rfl⟩
  rw [← hy] at p1
  have HW := Lib.hid hw1
  have HY := Lib.hid hy
  have hS : unpackRp s = (zeroRp, 4) := if_pos h
  have HS := Lib.hid hS
  have d0 : decide ((s.size : Int) < 9) = true := decide_eq_true (by omega)
  have B1 := Lib.hid b1
  have P1 := Lib.hid p1
  clear b1 p1 hw1 hS h
  go_enter Try.func38, Try.ntmps38
  go_upto_region 1 with (fail)
  rw [← HW.out, ← hy]
  clear hy
  go_upto_region 2 with (fail)
  repeat (first | (refine wpList_store_row rfl 60 (.tmp 2) (.tmp 12) rfl y #[.int .i64 0, .int .i64 0, .slice none 0 0] rfl rfl 60 _ P1.out size60 rfl (by simp [Value.oneCell']) ?_) | go_values | go_skip | go_guarded | go_step)
  go_wp2
  refine bodyPost_ret (results_ct rfl _ _ y 60 #[.int .i64 0, .int .i64 0, .slice none 0 0] (0, 0) _ rfl (setRow_heap _ _ _ _ _ _ P1.out) Try.underlying60 rfl size60) rfl ⟨r0, ?_, ?_, ObsR.nil _, ?_⟩
  · rw [HS.out]; rfl
  · rw [HS.out]; rfl
  · exact B1.out.trans ⟨rfl, rfl, rfl, by rw [size_setRow]; exact Nat.le_refl _, fun j hj => setRow_other _ _ _ _ (by rw [HY.out]; omega)⟩
set_option maxRecDepth 100000 in
set_option maxHeartbeats 8000000 in
theorem unpackp_b (s : ByteArray) (h : ¬ s.size < 9) (hs : s.size ≤ 500000) (w : World) :
    Calls Try.prog 38 #[.string s] w fun y w' => ∃ r : RE, y = .returned (.tuple #[.agg (rc r), .int .i64 (unpackRp s).2]) ∧ r.p = (unpackRp s).1 ∧ ObsR w' r.A r.L ∧ Below w.heap.size w w' := by
  obtain ⟨w1, hw1, b1, p1⟩ := box60 w #[.int .i64 0, .int .i64 0, .slice none 0 0]
  obtain ⟨y, hy⟩ : ∃ y, y = w.heap.size := ⟨_, rfl⟩
  rw [← hy] at p1
  have HW := Lib.hid hw1
  have HY := Lib.hid hy
  have d0 : decide ((s.size : Int) < 9) = false := decide_eq_false (by omega)
  have ix := ix0 s (by omega)
  have l1 := sl19 s (by omega)
  have l2 := sl9 s (by omega)
  have g1 := (byte0_lt s).1
  have g2 := (byte0_lt s).2
  have wx : IntKind.i64.wrap (byte0 s) = byte0 s := (by rw [IntKind.wrap_i64]; omega)
  have z1 : (numS s).size ≤ 1000000 := by unfold numS; rw [ByteArray.size_extract]; omega
  have z2 : (objS s).size ≤ 500000 := by unfold objS; rw [ByteArray.size_extract]; omega
  have C1 := Lib.hid (numof_any (numS s) z1)
  have C2 := Lib.hid (fun V => unpackall_own (objS s) z2 V)
  obtain ⟨⟨nv, ne⟩, hn⟩ : ∃ z, z = numOf (numS s) := ⟨_, rfl⟩
  rw [← hn] at C1
  obtain ⟨k0, hk0⟩ : ∃ k0, k0 = byte0 s := ⟨_, rfl⟩
  rw [← hk0] at ix g1 g2 wx
  have HN := Lib.hid hn
  have HK := Lib.hid hk0
  have HSZ := Lib.hid h
  have B1 := Lib.hid b1
  have P1 := Lib.hid p1
  clear b1 p1 hw1 h hn hk0 z1 z2
  go_enter Try.func38, Try.ntmps38
  go_upto_region 1 with (fail)
  rw [← HW.out, ← hy]
  clear hy
  go_upto_region 4 with (go_at_call 13; refine (C1.out _).mono ?_; rintro e w9 ⟨rfl, hw9⟩; have hw8 := hw9.symm; clear hw9; subst hw8)
  clear l1
  go_upto_region 5 with (go_at_call 23; refine (C2.out _).mono ?_; rintro e w2 ⟨L, A, c, f, rfl, hd, hml, hmr, hb2⟩)
  clear l2
  obtain ⟨r, hr⟩ : ∃ r : RE, r = ⟨k0, nv, L, A, c⟩ := ⟨_, rfl⟩
  have hrc : #[.int .i64 k0, .int .i64 nv, .slice A L.length c] = rc r := by rw [hr]; rfl
  obtain ⟨x, hx⟩ : ∃ x, x = w2.heap.size := ⟨_, rfl⟩
  have b3 := bel_alloc w2 (.cells #[.int .i64 k0, .int .i64 nv, .slice A L.length c] 60)
  obtain ⟨w3, hw3⟩ : ∃ w3, w3 = w2.alloc (.cells #[.int .i64 k0, .int .i64 nv, .slice A L.length c] 60) := ⟨_, rfl⟩
  rw [← hw3] at b3
  have f3 : w3.heap[x]? = some (.cells (rc r) 60 (0, 0)) := by rw [hw3, hx, ← hrc]; exact G.heap_new _ _
  have b13 := G.bthen hb2 b3
  have y3 : w3.heap[y]? = some (.cells #[.int .i64 0, .int .i64 0, .slice none 0 0] 60 (0, 0)) := (b13.block y (Array.getElem?_eq_some_iff.1 P1.out).1).trans P1.out
  have B3 := Lib.hid (B1.out.trans (belowLe B1.out.size b13))
  have F3 := Lib.hid f3
  have Y3 := Lib.hid y3
  have O3 := Lib.hid (hmr.below b3)
  have HW3 := Lib.hid hw3
  have HX := Lib.hid hx
  have HR := Lib.hid hr
  have HRC := Lib.hid hrc
  have HD := Lib.hid hd
  have hml2 := Nat.le_trans hml (show (objS s).size ≤ 500000 by unfold objS; rw [ByteArray.size_extract]; omega)
  clear hb2 b3 f3 b13 y3 hmr hw3 hr hrc hd hml hx
  go_upto_region 6 with (fail)
  rw [← HW3.out, ← HX.out]
  by_cases hne : ne = 0
  rotate_left
  · have hS : unpackRp s = (zeroRp, 4) := by
      rcases rp_cases s with e | ⟨_, l, _, h2, _⟩
      · exact e
      · rw [← HN.out] at h2; exact absurd h2 hne
    have HS := Lib.hid hS
    have q0 : (ne != 0) = true := by simp [hne]
    clear hS hne
    go_upto_region 7 with (fail)
    repeat (first | (refine wpList_store_row rfl 60 (.tmp 2) (.tmp 42) rfl y #[.int .i64 0, .int .i64 0, .slice none 0 0] rfl rfl 60 _ Y3.out size60 rfl (by simp [Value.oneCell']) ?_) | go_values | go_skip | go_guarded | go_step)
    go_wp2
    refine bodyPost_ret (results_ct rfl _ _ y 60 #[.int .i64 0, .int .i64 0, .slice none 0 0] (0, 0) _ rfl (setRow_heap _ _ _ _ _ _ Y3.out) Try.underlying60 rfl size60) rfl ⟨r0, ?_, ?_, ObsR.nil _, ?_⟩
    · rw [HS.out]; rfl
    · rw [HS.out]; rfl
    · exact B3.out.trans ⟨rfl, rfl, rfl, by rw [size_setRow]; exact Nat.le_refl _, fun j hj => setRow_other _ _ _ _ (by rw [HY.out]; omega)⟩
  have q0 : (ne != 0) = false := by simp [hne]
  rcases HD.out with ⟨hn0, hf, hL⟩ | ⟨hsm, hf⟩
  · have hS : unpackRp s = (zeroRp, 4) := by
      rcases rp_cases s with e | ⟨_, l, h1, _⟩
      · exact e
      · rw [hn0] at h1; cases h1
    have HS := Lib.hid hS
    have q1 : (f != 0) = true := by simp [hf]
    clear hS hne hn0 hf hL
    go_upto_region 7 with (fail)
    repeat (first | (refine wpList_store_row rfl 60 (.tmp 2) (.tmp 42) rfl y #[.int .i64 0, .int .i64 0, .slice none 0 0] rfl rfl 60 _ Y3.out size60 rfl (by simp [Value.oneCell']) ?_) | go_values | go_skip | go_guarded | go_step)
    go_wp2
    refine bodyPost_ret (results_ct rfl _ _ y 60 #[.int .i64 0, .int .i64 0, .slice none 0 0] (0, 0) _ rfl (setRow_heap _ _ _ _ _ _ Y3.out) Try.underlying60 rfl size60) rfl ⟨r0, ?_, ?_, ObsR.nil _, ?_⟩
    · rw [HS.out]; rfl
    · rw [HS.out]; rfl
    · exact B3.out.trans ⟨rfl, rfl, rfl, by rw [size_setRow]; exact Nat.le_refl _, fun j hj => setRow_other _ _ _ _ (by rw [HY.out]; omega)⟩
  have hshape := (allS_ok _ _ _ (Nat.le_refl _) hsm).1
  have hlens : r.lens := by
    rw [HR.out]
    exact ⟨by show L.length ≤ 1000000; omega, fun e he => shape_len e.o (hshape e.o (List.mem_map_of_mem he))⟩
  have C3 := Lib.hid (right34_any r hlens w3 (by rw [HR.out]; exact O3.out.read))
  have q1 : (f != 0) = false := by simp [hf]
  have hp : r.p = ⟨byte0 s, (numOf (numS s)).1, L.map (·.o)⟩ := by rw [HR.out, ← HN.out, ← HK.out]; rfl
  cases hR : rightRp r.p
  · have hS : unpackRp s = (zeroRp, 4) := by
      rcases rp_cases s with e | ⟨_, l, h1, _, h3, _⟩
      · exact e
      · rw [hsm] at h1; injection h1 with h1; rw [← h1, ← hp, hR] at h3; cases h3
    rw [hR] at C3
    have HS := Lib.hid hS
    clear hS hne hsm hf hshape hlens hp hR
    repeat (first | ((refine wp_load_row 60 (.tmp 8) rfl x rfl 60 _ (0, 0) _ F3.out Try.underlying60 rfl size60 ?_); (try simp only [Act.put, s1, s2, s3])) | go_values | go_skip | go_guarded | go_step)
    go_wp2_with (fail)
    refine C3.out.mono ?_
    rintro v w4 ⟨rfl, hb4⟩
    have Y4 := Lib.hid ((hb4.block y (Array.getElem?_eq_some_iff.1 Y3.out).1).trans Y3.out)
    have B4 := Lib.hid (B3.out.trans (belowLe B3.out.size hb4))
    clear hb4
    dsimp only
    rename_i hK
    refine hK _ _ ?_
    clear hK
    go_upto_region 7 with (fail)
    repeat (first | (refine wpList_store_row rfl 60 (.tmp 2) (.tmp 42) rfl y #[.int .i64 0, .int .i64 0, .slice none 0 0] rfl rfl 60 _ Y4.out size60 rfl (by simp [Value.oneCell']) ?_) | go_values | go_skip | go_guarded | go_step)
    go_wp2
    refine bodyPost_ret (results_ct rfl _ _ y 60 #[.int .i64 0, .int .i64 0, .slice none 0 0] (0, 0) _ rfl (setRow_heap _ _ _ _ _ _ Y4.out) Try.underlying60 rfl size60) rfl ⟨r0, ?_, ?_, ObsR.nil _, ?_⟩
    · rw [HS.out]; rfl
    · rw [HS.out]; rfl
    · exact B4.out.trans ⟨rfl, rfl, rfl, by rw [size_setRow]; exact Nat.le_refl _, fun j hj => setRow_other _ _ _ _ (by rw [HY.out]; omega)⟩
  · have hS : unpackRp s = (r.p, 0) := by
      rw [hp] at hR ⊢
      unfold unpackRp
      rw [if_neg HSZ.out, hsm]
      exact if_pos ⟨by rw [← HN.out]; exact hne, hR⟩
    rw [hR] at C3
    have HS := Lib.hid hS
    clear hS hne hsm hf hshape hlens hp hR
    repeat (first | ((refine wp_load_row 60 (.tmp 8) rfl x rfl 60 _ (0, 0) _ F3.out Try.underlying60 rfl size60 ?_); (try simp only [Act.put, s1, s2, s3])) | go_values | go_skip | go_guarded | go_step)
    go_wp2_with (fail)
    refine C3.out.mono ?_
    rintro v w4 ⟨rfl, hb4⟩
    have Y4 := Lib.hid ((hb4.block y (Array.getElem?_eq_some_iff.1 Y3.out).1).trans Y3.out)
    have F4 := Lib.hid ((hb4.block x (Array.getElem?_eq_some_iff.1 F3.out).1).trans F3.out)
    have O4 := Lib.hid (O3.out.below hb4)
    have B4 := Lib.hid (B3.out.trans (belowLe B3.out.size hb4))
    clear hb4
    dsimp only
    rename_i hK
    refine hK _ _ ?_
    clear hK
    go_upto_region 8 with (fail)
    repeat (first | ((refine wpList_load_row rfl 60 (.tmp 8) rfl x rfl 60 _ (0, 0) _ F4.out Try.underlying60 rfl size60 ?_); (try simp only [Act.put, s1, s2, s3])) | (refine wpList_store_row rfl 60 (.tmp 2) (.tmp 43) rfl y (rc r) rfl rfl 60 _ Y4.out size60 rfl (rc_one r) ?_) | go_values | go_skip | go_guarded | go_step)
    go_wp2
    refine bodyPost_ret (results_ct rfl _ _ y 60 (rc r) (0, 0) _ rfl (setRow_heap _ _ _ _ _ _ Y4.out) Try.underlying60 rfl size60) rfl ⟨r, ?_, ?_, ?_, ?_⟩
    · rw [HS.out]; rfl
    · rw [HS.out]
    · rw [HR.out]; exact (O4.out.row (Array.getElem?_eq_some_iff.1 P1.out).1).read
    · exact B4.out.trans ⟨rfl, rfl, rfl, by rw [size_setRow]; exact Nat.le_refl _, fun j hj => setRow_other _ _ _ _ (by rw [HY.out]; omega)⟩
theorem unpackp_any (s : ByteArray) (hs : s.size ≤ 500000) (w : World) :
    Calls Try.prog 38 #[.string s] w fun y w' => ∃ r : RE, y = .returned (.tuple #[.agg (rc r), .int .i64 (unpackRp s).2]) ∧ r.p = (unpackRp s).1 ∧ ObsR w' r.A r.L ∧ Below w.heap.size w w' := by
  by_cases h : s.size < 9
  · exact unpackp_s s h w
  · exact unpackp_b s h hs w
end Go.Proofs.Ytolndeolehkjoaa
