/- Requests: the request of bytes. -/
import Derived.Test.YtolndeolehkjoaaWqPd
namespace Go.Proofs.Ytolndeolehkjoaa
set_option linter.unusedVariables false
set_option linter.unusedSimpArgs false
open Go.RowKit CodP
theorem BQ.setRow {w0 w : World} {z x y : Nat} {cs xs ys : Array Value} (h : BQ w0 z x y cs xs ys w) (ds : Array Value) : BQ w0 z x y ds xs ys (w.setRow z ds) :=
  ⟨setRow_heap _ _ _ _ _ _ h.fz, fun hzx => (setRow_other _ _ _ _ (fun e => hzx e.symm)).trans (h.fx hzx), (setRow_other _ _ _ _ h.ne.1).trans h.fy, h.b.trans ⟨rfl, rfl, rfl, by rw [size_setRow]; exact Nat.le_refl _, fun j hj => setRow_other _ _ _ _ (by have := h.ne.2; have := h.b.size; omega)⟩, h.ne⟩
theorem BQ.belowQ {w0 w v : World} {z x y : Nat} {cs xs ys : Array Value} (h : BQ w0 z x y cs xs ys w) (hb : Below w.heap.size w v) (hx : z = x) : BQ w0 z x y cs xs ys v :=
  ⟨(hb.block z (Array.getElem?_eq_some_iff.1 h.fz).1).trans h.fz, fun e => absurd hx e, (hb.block y (Array.getElem?_eq_some_iff.1 h.fy).1).trans h.fy, h.b.trans (belowLe h.b.size hb), h.ne⟩
theorem restS_ob (q : Rq) (s : ByteArray) : (restS q s).1.ob = q.ob := by
  unfold restS endS
  split
  · rfl
  split
  · rfl
  split
  · rfl
  split <;> rfl
theorem grown_cells (z : Nat) : ∀ (vs : List Value) (o : Nat) (w : World), w.grownBy (w.setCells z o vs) (some z)
  | [], _, w => ⟨rfl, rfl, rfl, Nat.le_refl _, fun _ _ _ => rfl⟩
  | v :: r, o, w => (grown_set w z o v).trans (grown_cells z r (o + 1) _)
theorem storeQobG {ops : Array Oper} {rest : List Oper} {op : Oper} {a : Act} {w w0 : World} {Q : Exit → Act → World → Prop} {z x y : Nat} {q : Rq} {f l c p i : Sl} {xs ys : Array Value} (hgd : op.guard = none) (s t : Operand) (ho : op.op = .store 32 s t) (hd : op.dst = none)
    (hx : a.eval s = .pointer (some ⟨z, 1, none⟩)) (e : OE) (hv : a.eval t = .agg (oc e.o e.f e.l e.c e.p e.i)) (hB : BQ w0 z x y (rq q f l c p i) xs ys w)
    (h : ∀ w', BQ w0 z x y (rq { q with ob := e.o } e.f e.l e.c e.p e.i) xs ys w' → w.grownBy w' (some z) → wpList Try.prog ops Q rest a w') : wpList Try.prog ops Q (op :: rest) a w := by
  refine wpList_store_mid hgd 32 s t ho z 1 _ hx hv ?_ size32 (oc_one e.o e.f e.l e.c e.p e.i) ?_
  · intro j hj
    have hj19 : j < 19 := hj
    constructor
    · have hs : 1 + j < (rq q f l c p i).size := by show 1 + j < 23; omega
      simp only [World.cell?, hB.fz]
      simp [Array.getElem?_eq_getElem hs]
    · simp [World.frozen?, hB.fz]
  · have e1 : a.put op.dst undef = a := by rw [hd]; rfl
    rw [e1]
    refine h _ ⟨?_, fun hzx => (heap_setCells_other z x (fun e => hzx e.symm) _ _ _).trans (hB.fx hzx), (heap_setCells_other z y hB.ne.1 _ _ _).trans hB.fy, below_setCells z hB.ne.2 _ _ _ hB.b, hB.ne⟩ (grown_cells z _ _ _)
    have := heap_setCells z 51 (ec e) 1 w _ hB.fz
    rw [rq_set] at this
    exact this
set_option maxRecDepth 100000 in
set_option maxHeartbeats 4000000 in
theorem unpackq_e (s : ByteArray) (hs : s.size ≤ 500000) (h0 : s.size = 0) (w : World) :
    Calls Try.prog 31 #[.string s] w fun e w' => ∃ f l c p i, e = .returned (.tuple #[.agg (rq (unpackRq s).1 f l c p i), .int .i64 (unpackRq s).2]) ∧ RowsR w' (unpackRq s).1.ob f l c p i ∧ Below w.heap.size w w' := by
  have hS : unpackRq s = (zeroRq, 4) := by unfold unpackRq; exact if_pos h0
  have HS := Lib.hid hS
  clear hS
  obtain ⟨w1, hw1, b1, p1⟩ := one_rq w zrq
  obtain ⟨y, hy⟩ : ∃ y, y = w.heap.size := ⟨_, rfl⟩
  rw [← hy] at p1
  have HW := Lib.hid hw1
  have HY := Lib.hid hy
  have e0 : s.toList.isEmpty = true := empty_of h0
  have B1 := Lib.hid b1
  have P1 := Lib.hid p1
  clear b1 p1 hw1 h0
  go_enter Try.func31, Try.ntmps31
  go_upto_region 1 with (fail)
  rw [← HW.out, ← hy]
  clear hy
  go_upto_region 2 with (fail)
  iterate 4 (first | go_values | go_skip | go_guarded | go_step)
  refine wpList_store_row rfl 51 (.tmp 2) (.tmp 10) rfl y zrq rfl rfl 51 _ P1.out size51 rfl (by simp [Value.oneCell', zrq]) ?_
  go_wp2
  refine bodyPost_ret (results_ct rfl _ _ y 51 zrq (0, 0) _ rfl (setRow_heap _ _ _ _ _ _ P1.out) Try.underlying51 rfl size51) rfl ⟨Sl0, Sl0, Sl0, Sl0, Sl0, ?_, ?_, ?_⟩
  · rw [HS.out]; rfl
  · rw [HS.out]; exact RowsR.zero _
  · exact B1.out.trans ⟨rfl, rfl, rfl, by rw [size_setRow]; exact Nat.le_refl _, fun j hj => setRow_other _ _ _ _ (by rw [HY.out]; omega)⟩
set_option maxRecDepth 100000 in
set_option maxHeartbeats 4000000 in
theorem unpackq_rb (s : ByteArray) (hs : s.size ≤ 500000) (h0 : ¬ s.size = 0) (h1 : wholeB (byte0 s) = false) (h2 : (restS (opRq (byte0 s)) (from1 s)).2 = false) (w : World) :
    Calls Try.prog 31 #[.string s] w fun e w' => ∃ f l c p i, e = .returned (.tuple #[.agg (rq (unpackRq s).1 f l c p i), .int .i64 (unpackRq s).2]) ∧ RowsR w' (unpackRq s).1.ob f l c p i ∧ Below w.heap.size w w' := by
  have hS : unpackRq s = (zeroRq, 4) := by unfold unpackRq; rw [if_neg h0, if_neg (by rw [h1]; decide), if_neg (by rw [h2]; rintro ⟨h, _⟩; cases h)]
  have HS := Lib.hid hS
  clear hS
  obtain ⟨w1, hw1, b1, p1⟩ := one_rq w zrq
  obtain ⟨y, hy⟩ : ∃ y, y = w.heap.size := ⟨_, rfl⟩
  rw [← hy] at p1
  have HW := Lib.hid hw1
  have HY := Lib.hid hy
  obtain ⟨r1, hr1⟩ : ∃ r1, r1 = from1 s := ⟨_, rfl⟩
  obtain ⟨k0, hk0⟩ : ∃ k0, k0 = byte0 s := ⟨_, rfl⟩
  have hz1 : r1.size ≤ 500000 := by rw [hr1]; unfold from1; rw [ByteArray.size_extract]; omega
  have e0 : s.toList.isEmpty = false := not_empty h0
  have ix := ix0 s (by omega)
  have hl : ∀ W, (Instr.slice 9 (.string s) (some (.int .i64 1)) none none).run Try.prog W = .ok (.string (from1 s)) W := sl1 s 1 1 rfl (by omega)
  have g0 := byte0_lt s
  have g1 := g0.1
  have g2 := g0.2
  have wx : IntKind.i64.wrap (byte0 s) = byte0 s := (by rw [IntKind.wrap_i64]; omega)
  rw [← hk0] at ix g1 g2 wx h1
  rw [← hr1] at hl h2
  rw [← hk0] at h2
  clear g0 h0 hk0 hr1
  obtain ⟨z, hz⟩ : ∃ z, z = w1.heap.size := ⟨_, rfl⟩
  have b2 := bel_allocRow51 w1 zrq #[.int .i64 k0, .int .i64 0, .string ⟨#[]⟩, .int .i64 0, .int .i64 0, .bool false, .slice none 0 0, .slice none 0 0, .slice none 0 0, .string ⟨#[]⟩, .int .i64 0, .int .i64 0, .slice none 0 0, .slice none 0 0, .string ⟨#[]⟩, .string ⟨#[]⟩, .int .i64 0, .string ⟨#[]⟩, .string ⟨#[]⟩, .string ⟨#[]⟩, .int .i64 0, .string ⟨#[]⟩, .int .i64 0]
  obtain ⟨w2, hw2⟩ : ∃ w2, w2 = (w1.alloc (.cells zrq 51)).setRow w1.heap.size #[.int .i64 k0, .int .i64 0, .string ⟨#[]⟩, .int .i64 0, .int .i64 0, .bool false, .slice none 0 0, .slice none 0 0, .slice none 0 0, .string ⟨#[]⟩, .int .i64 0, .int .i64 0, .slice none 0 0, .slice none 0 0, .string ⟨#[]⟩, .string ⟨#[]⟩, .int .i64 0, .string ⟨#[]⟩, .string ⟨#[]⟩, .string ⟨#[]⟩, .int .i64 0, .string ⟨#[]⟩, .int .i64 0] := ⟨_, rfl⟩
  rw [← hw2] at b2
  have f2 : w2.heap[z]? = some (.cells #[.int .i64 k0, .int .i64 0, .string ⟨#[]⟩, .int .i64 0, .int .i64 0, .bool false, .slice none 0 0, .slice none 0 0, .slice none 0 0, .string ⟨#[]⟩, .int .i64 0, .int .i64 0, .slice none 0 0, .slice none 0 0, .string ⟨#[]⟩, .string ⟨#[]⟩, .int .i64 0, .string ⟨#[]⟩, .string ⟨#[]⟩, .string ⟨#[]⟩, .int .i64 0, .string ⟨#[]⟩, .int .i64 0] 51 (0, 0)) := by rw [hw2, hz]; exact setRow_heap _ _ _ _ _ _ (G.heap_new _ _)
  have hyz : y < w1.heap.size := (Array.getElem?_eq_some_iff.1 p1).1
  have hB0 : BQ w z z y #[.int .i64 k0, .int .i64 0, .string ⟨#[]⟩, .int .i64 0, .int .i64 0, .bool false, .slice none 0 0, .slice none 0 0, .slice none 0 0, .string ⟨#[]⟩, .int .i64 0, .int .i64 0, .slice none 0 0, .slice none 0 0, .string ⟨#[]⟩, .string ⟨#[]⟩, .int .i64 0, .string ⟨#[]⟩, .string ⟨#[]⟩, .string ⟨#[]⟩, .int .i64 0, .string ⟨#[]⟩, .int .i64 0] #[] zrq w2 := ⟨f2, fun h => absurd rfl h, (b2.block y hyz).trans p1, b1.trans (belowLe b1.size b2), by omega, by omega⟩
  have c0 : w2.cell? ⟨z, 0, none⟩ = some (.int .i64 k0) := by simp [World.cell?, f2]
  have HC := Lib.hid c0
  have HB := Lib.hid hB0
  have HW2 := Lib.hid hw2
  have HWH := Lib.hid h1
  have H2 := Lib.hid h2
  clear b1 p1 b2 f2 hyz hB0 c0 hw1 hw2 h1 h2
  go_enter Try.func31, Try.ntmps31
  go_upto_region 1 with (fail)
  rw [← HW.out, ← hy]
  clear hy
  go_upto_region 3 with (fail)
  iterate 16 (first | go_values | go_skip | go_guarded | go_step)
  refine wpList_store_row rfl 51 (.tmp 4) (.tmp 14) rfl _ #[.int .i64 k0, .int .i64 0, .string ⟨#[]⟩, .int .i64 0, .int .i64 0, .bool false, .slice none 0 0, .slice none 0 0, .slice none 0 0, .string ⟨#[]⟩, .int .i64 0, .int .i64 0, .slice none 0 0, .slice none 0 0, .string ⟨#[]⟩, .string ⟨#[]⟩, .int .i64 0, .string ⟨#[]⟩, .string ⟨#[]⟩, .string ⟨#[]⟩, .int .i64 0, .string ⟨#[]⟩, .int .i64 0] rfl rfl 51 _ (G.heap_new _ _) size51 rfl (by simp [Value.oneCell', zrq]) ?_
  rw [← HW2.out, ← hz]
  clear hz
  have c0 := HC.out
  go_upto_region 10 with (go_at_call 55; refine (whole_any k0 _ HWH.out _).mono ?_; rintro e w4 ⟨rfl, hw4⟩; have hw5 := hw4.symm; clear hw4; subst hw5)
  clear c0
  obtain ⟨qR, hqR⟩ : ∃ qR, qR = (restS (opRq k0) r1).1 := ⟨_, rfl⟩
  have hob : qR.ob = zeroOb := by rw [hqR]; exact restS_ob _ _
  have HQ := Lib.hid hqR
  have HOB := Lib.hid hob
  clear hob hqR
  refine wp_region_held_drew (S := fun _ => True) (by kernel_rfl) trivial (fun hS0 => ?_)
  refine tk 1 32 (.string s) ?_; (try simp only [s1, s2, s3]); refine tk 2 33 (.string r1) ?_; (try simp only [s1, s2, s3])
  refine wpAnyH_ready (rs := [0]) (by kernel_rfl) (by simp) ?_
  refine AllReadyH.cons rfl (fun K hK => ?_) ?_
  · rw [if_pos (by rfl)]
    refine wp_load_row 51 (.tmp 4) (by rfl) z (by (go_simp; try rfl)) 51 #[.int .i64 k0, .int .i64 0, .string ⟨#[]⟩, .int .i64 0, .int .i64 0, .bool false, .slice none 0 0, .slice none 0 0, .slice none 0 0, .string ⟨#[]⟩, .int .i64 0, .int .i64 0, .slice none 0 0, .slice none 0 0, .string ⟨#[]⟩, .string ⟨#[]⟩, .int .i64 0, .string ⟨#[]⟩, .string ⟨#[]⟩, .string ⟨#[]⟩, .int .i64 0, .string ⟨#[]⟩, .int .i64 0] (0, 0) _ HB.out.drew.fz Try.underlying51 rfl size51 ?_
    refine hK.out _ _ (trivial) (fun hHeld => ?_)
    clear hK K; try simp only [Act.put, s1, s2, s3]
    refine wpAnyH_ready (rs := [3]) (by kernel_rfl) (by simp) ?_
    refine AllReadyH.cons rfl (fun K hK => ?_) ?_
    · rw [if_pos (by rfl)]
      go_simp
      go_at_call 58
      refine (rest_any (opRq k0) Sl0 Sl0 Sl0 Sl0 Sl0 r1 hz1 _).mono ?_
      rw [← HQ.out, H2.out]
      rintro e wO ⟨rfl, hbO⟩
      dsimp only
      have HBO := Lib.hid (HB.out.drew.belowQ hbO rfl)
      clear hbO
      refine hK.out _ _ (trivial) (fun hHeld => ?_)
      clear hK K; try simp only [Act.put, s1, s2, s3]
      refine tk 4 30 (.tuple #[.agg (rq qR Sl0 Sl0 Sl0 Sl0 Sl0), .bool false]) ?_; (try simp only [s1, s2, s3]); refine tk 5 35 (.agg (rq qR Sl0 Sl0 Sl0 Sl0 Sl0)) ?_; (try simp only [s1, s2, s3]); refine tk 6 36 (.bool false) ?_; (try simp only [s1, s2, s3])
      refine wpAnyH_ready (rs := [7]) (by kernel_rfl) (by simp) ?_
      refine AllReadyH.cons rfl (fun K hK => ?_) ?_
      · rw [if_pos (by rfl)]
        refine wp_store_row 51 (.tmp 4) (.tmp 35) rfl z (rq qR Sl0 Sl0 Sl0 Sl0 Sl0) (by (go_simp; try rfl)) (by (go_simp; try rfl)) 51 _ HBO.out.fz size51 rfl (rq_one _ _ _ _ _ _) ?_
        have HB7 := Lib.hid (HBO.out.setRow (rq qR Sl0 Sl0 Sl0 Sl0 Sl0))
        generalize wO.setRow z (rq qR Sl0 Sl0 Sl0 Sl0 Sl0) = w7 at HB7 ⊢
        refine hK.out _ _ (trivial) (fun hHeld => ?_)
        clear hK K; try simp only [Act.put, s1, s2, s3]
        refine tk 8 7 (.bool false) ?_; (try simp only [s1, s2, s3])
        refine wpAnyH_done (by kernel_rfl) ?_ _
        repeat clear hHeld
        clear hS0
        go_upto_region 12 with (fail)
        iterate 4 (first | go_values | go_skip | go_guarded | go_step)
        have hBE := HB7.out
        refine wpList_store_row rfl 51 (.tmp 2) (.tmp 44) rfl y (zrq) rfl rfl 51 _ hBE.fy size51 rfl (by simp [Value.oneCell', rq]) ?_
        have HBE := Lib.hid hBE
        clear hBE
        go_wp2
        refine bodyPost_ret (results_ct rfl _ _ y 51 (zrq) (0, 0) _ rfl (setRow_heap _ _ _ _ _ _ HBE.out.fy) Try.underlying51 rfl size51) rfl ⟨Sl0, Sl0, Sl0, Sl0, Sl0, ?_, ?_, ?_⟩
        · rw [HS.out]; rfl
        · rw [HS.out]; exact RowsR.zero _
        · exact HBE.out.b.trans ⟨rfl, rfl, rfl, by rw [size_setRow]; exact Nat.le_refl _, fun j hj => setRow_other _ _ _ _ (by rw [HY.out]; omega)⟩
      exact AllReadyH.nil
    exact AllReadyH.nil
  exact AllReadyH.nil
set_option maxRecDepth 100000 in
set_option maxHeartbeats 4000000 in
theorem unpackq_rr (s : ByteArray) (hs : s.size ≤ 500000) (h0 : ¬ s.size = 0) (h1 : wholeB (byte0 s) = false) (h2 : (restS (opRq (byte0 s)) (from1 s)).2 = true) (h3 : rightB (restS (opRq (byte0 s)) (from1 s)).1 = false) (w : World) :
    Calls Try.prog 31 #[.string s] w fun e w' => ∃ f l c p i, e = .returned (.tuple #[.agg (rq (unpackRq s).1 f l c p i), .int .i64 (unpackRq s).2]) ∧ RowsR w' (unpackRq s).1.ob f l c p i ∧ Below w.heap.size w w' := by
  have hS : unpackRq s = (zeroRq, 4) := by unfold unpackRq; rw [if_neg h0, if_neg (by rw [h1]; decide), if_neg (by rw [h3]; rintro ⟨_, h⟩; cases h)]
  have HS := Lib.hid hS
  clear hS
  obtain ⟨w1, hw1, b1, p1⟩ := one_rq w zrq
  obtain ⟨y, hy⟩ : ∃ y, y = w.heap.size := ⟨_, rfl⟩
  rw [← hy] at p1
  have HW := Lib.hid hw1
  have HY := Lib.hid hy
  obtain ⟨r1, hr1⟩ : ∃ r1, r1 = from1 s := ⟨_, rfl⟩
  obtain ⟨k0, hk0⟩ : ∃ k0, k0 = byte0 s := ⟨_, rfl⟩
  have hz1 : r1.size ≤ 500000 := by rw [hr1]; unfold from1; rw [ByteArray.size_extract]; omega
  have e0 : s.toList.isEmpty = false := not_empty h0
  have ix := ix0 s (by omega)
  have hl : ∀ W, (Instr.slice 9 (.string s) (some (.int .i64 1)) none none).run Try.prog W = .ok (.string (from1 s)) W := sl1 s 1 1 rfl (by omega)
  have g0 := byte0_lt s
  have g1 := g0.1
  have g2 := g0.2
  have wx : IntKind.i64.wrap (byte0 s) = byte0 s := (by rw [IntKind.wrap_i64]; omega)
  rw [← hk0] at ix g1 g2 wx h1
  rw [← hr1] at hl h2
  rw [← hk0] at h2
  rw [← hk0, ← hr1] at h3
  clear g0 h0 hk0 hr1
  obtain ⟨z, hz⟩ : ∃ z, z = w1.heap.size := ⟨_, rfl⟩
  have b2 := bel_allocRow51 w1 zrq #[.int .i64 k0, .int .i64 0, .string ⟨#[]⟩, .int .i64 0, .int .i64 0, .bool false, .slice none 0 0, .slice none 0 0, .slice none 0 0, .string ⟨#[]⟩, .int .i64 0, .int .i64 0, .slice none 0 0, .slice none 0 0, .string ⟨#[]⟩, .string ⟨#[]⟩, .int .i64 0, .string ⟨#[]⟩, .string ⟨#[]⟩, .string ⟨#[]⟩, .int .i64 0, .string ⟨#[]⟩, .int .i64 0]
  obtain ⟨w2, hw2⟩ : ∃ w2, w2 = (w1.alloc (.cells zrq 51)).setRow w1.heap.size #[.int .i64 k0, .int .i64 0, .string ⟨#[]⟩, .int .i64 0, .int .i64 0, .bool false, .slice none 0 0, .slice none 0 0, .slice none 0 0, .string ⟨#[]⟩, .int .i64 0, .int .i64 0, .slice none 0 0, .slice none 0 0, .string ⟨#[]⟩, .string ⟨#[]⟩, .int .i64 0, .string ⟨#[]⟩, .string ⟨#[]⟩, .string ⟨#[]⟩, .int .i64 0, .string ⟨#[]⟩, .int .i64 0] := ⟨_, rfl⟩
  rw [← hw2] at b2
  have f2 : w2.heap[z]? = some (.cells #[.int .i64 k0, .int .i64 0, .string ⟨#[]⟩, .int .i64 0, .int .i64 0, .bool false, .slice none 0 0, .slice none 0 0, .slice none 0 0, .string ⟨#[]⟩, .int .i64 0, .int .i64 0, .slice none 0 0, .slice none 0 0, .string ⟨#[]⟩, .string ⟨#[]⟩, .int .i64 0, .string ⟨#[]⟩, .string ⟨#[]⟩, .string ⟨#[]⟩, .int .i64 0, .string ⟨#[]⟩, .int .i64 0] 51 (0, 0)) := by rw [hw2, hz]; exact setRow_heap _ _ _ _ _ _ (G.heap_new _ _)
  have hyz : y < w1.heap.size := (Array.getElem?_eq_some_iff.1 p1).1
  have hB0 : BQ w z z y #[.int .i64 k0, .int .i64 0, .string ⟨#[]⟩, .int .i64 0, .int .i64 0, .bool false, .slice none 0 0, .slice none 0 0, .slice none 0 0, .string ⟨#[]⟩, .int .i64 0, .int .i64 0, .slice none 0 0, .slice none 0 0, .string ⟨#[]⟩, .string ⟨#[]⟩, .int .i64 0, .string ⟨#[]⟩, .string ⟨#[]⟩, .string ⟨#[]⟩, .int .i64 0, .string ⟨#[]⟩, .int .i64 0] #[] zrq w2 := ⟨f2, fun h => absurd rfl h, (b2.block y hyz).trans p1, b1.trans (belowLe b1.size b2), by omega, by omega⟩
  have c0 : w2.cell? ⟨z, 0, none⟩ = some (.int .i64 k0) := by simp [World.cell?, f2]
  have HC := Lib.hid c0
  have HB := Lib.hid hB0
  have HW2 := Lib.hid hw2
  have HWH := Lib.hid h1
  have H2 := Lib.hid h2
  have H3 := Lib.hid h3
  clear b1 p1 b2 f2 hyz hB0 c0 hw1 hw2 h1 h2 h3
  go_enter Try.func31, Try.ntmps31
  go_upto_region 1 with (fail)
  rw [← HW.out, ← hy]
  clear hy
  go_upto_region 3 with (fail)
  iterate 16 (first | go_values | go_skip | go_guarded | go_step)
  refine wpList_store_row rfl 51 (.tmp 4) (.tmp 14) rfl _ #[.int .i64 k0, .int .i64 0, .string ⟨#[]⟩, .int .i64 0, .int .i64 0, .bool false, .slice none 0 0, .slice none 0 0, .slice none 0 0, .string ⟨#[]⟩, .int .i64 0, .int .i64 0, .slice none 0 0, .slice none 0 0, .string ⟨#[]⟩, .string ⟨#[]⟩, .int .i64 0, .string ⟨#[]⟩, .string ⟨#[]⟩, .string ⟨#[]⟩, .int .i64 0, .string ⟨#[]⟩, .int .i64 0] rfl rfl 51 _ (G.heap_new _ _) size51 rfl (by simp [Value.oneCell', zrq]) ?_
  rw [← HW2.out, ← hz]
  clear hz
  have c0 := HC.out
  go_upto_region 10 with (go_at_call 55; refine (whole_any k0 _ HWH.out _).mono ?_; rintro e w4 ⟨rfl, hw4⟩; have hw5 := hw4.symm; clear hw4; subst hw5)
  clear c0
  obtain ⟨qR, hqR⟩ : ∃ qR, qR = (restS (opRq k0) r1).1 := ⟨_, rfl⟩
  have hob : qR.ob = zeroOb := by rw [hqR]; exact restS_ob _ _
  have HQ := Lib.hid hqR
  have HOB := Lib.hid hob
  clear hob hqR
  refine wp_region_held_drew (S := fun _ => True) (by kernel_rfl) trivial (fun hS0 => ?_)
  refine tk 1 32 (.string s) ?_; (try simp only [s1, s2, s3]); refine tk 2 33 (.string r1) ?_; (try simp only [s1, s2, s3])
  refine wpAnyH_ready (rs := [0]) (by kernel_rfl) (by simp) ?_
  refine AllReadyH.cons rfl (fun K hK => ?_) ?_
  · rw [if_pos (by rfl)]
    refine wp_load_row 51 (.tmp 4) (by rfl) z (by (go_simp; try rfl)) 51 #[.int .i64 k0, .int .i64 0, .string ⟨#[]⟩, .int .i64 0, .int .i64 0, .bool false, .slice none 0 0, .slice none 0 0, .slice none 0 0, .string ⟨#[]⟩, .int .i64 0, .int .i64 0, .slice none 0 0, .slice none 0 0, .string ⟨#[]⟩, .string ⟨#[]⟩, .int .i64 0, .string ⟨#[]⟩, .string ⟨#[]⟩, .string ⟨#[]⟩, .int .i64 0, .string ⟨#[]⟩, .int .i64 0] (0, 0) _ HB.out.drew.fz Try.underlying51 rfl size51 ?_
    refine hK.out _ _ (trivial) (fun hHeld => ?_)
    clear hK K; try simp only [Act.put, s1, s2, s3]
    refine wpAnyH_ready (rs := [3]) (by kernel_rfl) (by simp) ?_
    refine AllReadyH.cons rfl (fun K hK => ?_) ?_
    · rw [if_pos (by rfl)]
      go_simp
      go_at_call 58
      refine (rest_any (opRq k0) Sl0 Sl0 Sl0 Sl0 Sl0 r1 hz1 _).mono ?_
      rw [← HQ.out, H2.out]
      rintro e wO ⟨rfl, hbO⟩
      dsimp only
      have HBO := Lib.hid (HB.out.drew.belowQ hbO rfl)
      clear hbO
      refine hK.out _ _ (trivial) (fun hHeld => ?_)
      clear hK K; try simp only [Act.put, s1, s2, s3]
      refine tk 4 30 (.tuple #[.agg (rq qR Sl0 Sl0 Sl0 Sl0 Sl0), .bool true]) ?_; (try simp only [s1, s2, s3]); refine tk 5 35 (.agg (rq qR Sl0 Sl0 Sl0 Sl0 Sl0)) ?_; (try simp only [s1, s2, s3]); refine tk 6 36 (.bool true) ?_; (try simp only [s1, s2, s3])
      refine wpAnyH_ready (rs := [7]) (by kernel_rfl) (by simp) ?_
      refine AllReadyH.cons rfl (fun K hK => ?_) ?_
      · rw [if_pos (by rfl)]
        refine wp_store_row 51 (.tmp 4) (.tmp 35) rfl z (rq qR Sl0 Sl0 Sl0 Sl0 Sl0) (by (go_simp; try rfl)) (by (go_simp; try rfl)) 51 _ HBO.out.fz size51 rfl (rq_one _ _ _ _ _ _) ?_
        have HB7 := Lib.hid (HBO.out.setRow (rq qR Sl0 Sl0 Sl0 Sl0 Sl0))
        generalize wO.setRow z (rq qR Sl0 Sl0 Sl0 Sl0 Sl0) = w7 at HB7 ⊢
        refine hK.out _ _ (trivial) (fun hHeld => ?_)
        clear hK K; try simp only [Act.put, s1, s2, s3]
        refine tk 8 7 (.bool true) ?_; (try simp only [s1, s2, s3])
        refine wpAnyH_done (by kernel_rfl) ?_ _
        repeat clear hHeld
        clear hS0
        go_upto_region 11 with (fail)
        repeat (first | ((refine wp_load_row 51 (.tmp 4) rfl z rfl 51 _ (0, 0) _ HB7.out.fz Try.underlying51 rfl size51 ?_); try simp only [Act.put, s1, s2, s3]) | go_values | go_skip | go_guarded | go_step)
        go_wp2_with (fail)
        refine (right26_any qR Sl0 Sl0 Sl0 Sl0 Sl0 (by rw [HOB.out]; exact zero_len) _ (by rw [HOB.out]; exact RowsR.zero _)).mono ?_
        rw [show rightB qR = false by rw [HQ.out]; exact H3.out]
        rintro e w8 ⟨rfl, hb8⟩
        have HB8 := Lib.hid (HB7.out.belowQ hb8 rfl)
        clear hb8
        dsimp only
        rename_i hK
        refine hK _ _ ?_
        clear hK
        go_upto_region 12 with (fail)
        iterate 4 (first | go_values | go_skip | go_guarded | go_step)
        have hBE := HB8.out
        refine wpList_store_row rfl 51 (.tmp 2) (.tmp 44) rfl y (zrq) rfl rfl 51 _ hBE.fy size51 rfl (by simp [Value.oneCell', rq]) ?_
        have HBE := Lib.hid hBE
        clear hBE
        go_wp2
        refine bodyPost_ret (results_ct rfl _ _ y 51 (zrq) (0, 0) _ rfl (setRow_heap _ _ _ _ _ _ HBE.out.fy) Try.underlying51 rfl size51) rfl ⟨Sl0, Sl0, Sl0, Sl0, Sl0, ?_, ?_, ?_⟩
        · rw [HS.out]; rfl
        · rw [HS.out]; exact RowsR.zero _
        · exact HBE.out.b.trans ⟨rfl, rfl, rfl, by rw [size_setRow]; exact Nat.le_refl _, fun j hj => setRow_other _ _ _ _ (by rw [HY.out]; omega)⟩
      exact AllReadyH.nil
    exact AllReadyH.nil
  exact AllReadyH.nil
set_option maxRecDepth 100000 in
set_option maxHeartbeats 4000000 in
theorem unpackq_rg (s : ByteArray) (hs : s.size ≤ 500000) (h0 : ¬ s.size = 0) (h1 : wholeB (byte0 s) = false) (h2 : (restS (opRq (byte0 s)) (from1 s)).2 = true) (h3 : rightB (restS (opRq (byte0 s)) (from1 s)).1 = true) (w : World) :
    Calls Try.prog 31 #[.string s] w fun e w' => ∃ f l c p i, e = .returned (.tuple #[.agg (rq (unpackRq s).1 f l c p i), .int .i64 (unpackRq s).2]) ∧ RowsR w' (unpackRq s).1.ob f l c p i ∧ Below w.heap.size w w' := by
  have hS : unpackRq s = ((restS (opRq (byte0 s)) (from1 s)).1, 0) := by unfold unpackRq; rw [if_neg h0, if_neg (by rw [h1]; decide), if_pos ⟨h2, h3⟩]
  have HS := Lib.hid hS
  clear hS
  obtain ⟨w1, hw1, b1, p1⟩ := one_rq w zrq
  obtain ⟨y, hy⟩ : ∃ y, y = w.heap.size := ⟨_, rfl⟩
  rw [← hy] at p1
  have HW := Lib.hid hw1
  have HY := Lib.hid hy
  obtain ⟨r1, hr1⟩ : ∃ r1, r1 = from1 s := ⟨_, rfl⟩
  obtain ⟨k0, hk0⟩ : ∃ k0, k0 = byte0 s := ⟨_, rfl⟩
  have hz1 : r1.size ≤ 500000 := by rw [hr1]; unfold from1; rw [ByteArray.size_extract]; omega
  have e0 : s.toList.isEmpty = false := not_empty h0
  have ix := ix0 s (by omega)
  have hl : ∀ W, (Instr.slice 9 (.string s) (some (.int .i64 1)) none none).run Try.prog W = .ok (.string (from1 s)) W := sl1 s 1 1 rfl (by omega)
  have g0 := byte0_lt s
  have g1 := g0.1
  have g2 := g0.2
  have wx : IntKind.i64.wrap (byte0 s) = byte0 s := (by rw [IntKind.wrap_i64]; omega)
  rw [← hk0, ← hr1] at HS
  rw [← hk0] at ix g1 g2 wx h1
  rw [← hr1] at hl h2
  rw [← hk0] at h2
  rw [← hk0, ← hr1] at h3
  clear g0 h0 hk0 hr1
  obtain ⟨z, hz⟩ : ∃ z, z = w1.heap.size := ⟨_, rfl⟩
  have b2 := bel_allocRow51 w1 zrq #[.int .i64 k0, .int .i64 0, .string ⟨#[]⟩, .int .i64 0, .int .i64 0, .bool false, .slice none 0 0, .slice none 0 0, .slice none 0 0, .string ⟨#[]⟩, .int .i64 0, .int .i64 0, .slice none 0 0, .slice none 0 0, .string ⟨#[]⟩, .string ⟨#[]⟩, .int .i64 0, .string ⟨#[]⟩, .string ⟨#[]⟩, .string ⟨#[]⟩, .int .i64 0, .string ⟨#[]⟩, .int .i64 0]
  obtain ⟨w2, hw2⟩ : ∃ w2, w2 = (w1.alloc (.cells zrq 51)).setRow w1.heap.size #[.int .i64 k0, .int .i64 0, .string ⟨#[]⟩, .int .i64 0, .int .i64 0, .bool false, .slice none 0 0, .slice none 0 0, .slice none 0 0, .string ⟨#[]⟩, .int .i64 0, .int .i64 0, .slice none 0 0, .slice none 0 0, .string ⟨#[]⟩, .string ⟨#[]⟩, .int .i64 0, .string ⟨#[]⟩, .string ⟨#[]⟩, .string ⟨#[]⟩, .int .i64 0, .string ⟨#[]⟩, .int .i64 0] := ⟨_, rfl⟩
  rw [← hw2] at b2
  have f2 : w2.heap[z]? = some (.cells #[.int .i64 k0, .int .i64 0, .string ⟨#[]⟩, .int .i64 0, .int .i64 0, .bool false, .slice none 0 0, .slice none 0 0, .slice none 0 0, .string ⟨#[]⟩, .int .i64 0, .int .i64 0, .slice none 0 0, .slice none 0 0, .string ⟨#[]⟩, .string ⟨#[]⟩, .int .i64 0, .string ⟨#[]⟩, .string ⟨#[]⟩, .string ⟨#[]⟩, .int .i64 0, .string ⟨#[]⟩, .int .i64 0] 51 (0, 0)) := by rw [hw2, hz]; exact setRow_heap _ _ _ _ _ _ (G.heap_new _ _)
  have hyz : y < w1.heap.size := (Array.getElem?_eq_some_iff.1 p1).1
  have hB0 : BQ w z z y #[.int .i64 k0, .int .i64 0, .string ⟨#[]⟩, .int .i64 0, .int .i64 0, .bool false, .slice none 0 0, .slice none 0 0, .slice none 0 0, .string ⟨#[]⟩, .int .i64 0, .int .i64 0, .slice none 0 0, .slice none 0 0, .string ⟨#[]⟩, .string ⟨#[]⟩, .int .i64 0, .string ⟨#[]⟩, .string ⟨#[]⟩, .string ⟨#[]⟩, .int .i64 0, .string ⟨#[]⟩, .int .i64 0] #[] zrq w2 := ⟨f2, fun h => absurd rfl h, (b2.block y hyz).trans p1, b1.trans (belowLe b1.size b2), by omega, by omega⟩
  have c0 : w2.cell? ⟨z, 0, none⟩ = some (.int .i64 k0) := by simp [World.cell?, f2]
  have HC := Lib.hid c0
  have HB := Lib.hid hB0
  have HW2 := Lib.hid hw2
  have HWH := Lib.hid h1
  have H2 := Lib.hid h2
  have H3 := Lib.hid h3
  clear b1 p1 b2 f2 hyz hB0 c0 hw1 hw2 h1 h2 h3
  go_enter Try.func31, Try.ntmps31
  go_upto_region 1 with (fail)
  rw [← HW.out, ← hy]
  clear hy
  go_upto_region 3 with (fail)
  iterate 16 (first | go_values | go_skip | go_guarded | go_step)
  refine wpList_store_row rfl 51 (.tmp 4) (.tmp 14) rfl _ #[.int .i64 k0, .int .i64 0, .string ⟨#[]⟩, .int .i64 0, .int .i64 0, .bool false, .slice none 0 0, .slice none 0 0, .slice none 0 0, .string ⟨#[]⟩, .int .i64 0, .int .i64 0, .slice none 0 0, .slice none 0 0, .string ⟨#[]⟩, .string ⟨#[]⟩, .int .i64 0, .string ⟨#[]⟩, .string ⟨#[]⟩, .string ⟨#[]⟩, .int .i64 0, .string ⟨#[]⟩, .int .i64 0] rfl rfl 51 _ (G.heap_new _ _) size51 rfl (by simp [Value.oneCell', zrq]) ?_
  rw [← HW2.out, ← hz]
  clear hz
  have c0 := HC.out
  go_upto_region 10 with (go_at_call 55; refine (whole_any k0 _ HWH.out _).mono ?_; rintro e w4 ⟨rfl, hw4⟩; have hw5 := hw4.symm; clear hw4; subst hw5)
  clear c0
  obtain ⟨qR, hqR⟩ : ∃ qR, qR = (restS (opRq k0) r1).1 := ⟨_, rfl⟩
  have hob : qR.ob = zeroOb := by rw [hqR]; exact restS_ob _ _
  have HQ := Lib.hid hqR
  have HOB := Lib.hid hob
  clear hob hqR
  refine wp_region_held_drew (S := fun _ => True) (by kernel_rfl) trivial (fun hS0 => ?_)
  refine tk 1 32 (.string s) ?_; (try simp only [s1, s2, s3]); refine tk 2 33 (.string r1) ?_; (try simp only [s1, s2, s3])
  refine wpAnyH_ready (rs := [0]) (by kernel_rfl) (by simp) ?_
  refine AllReadyH.cons rfl (fun K hK => ?_) ?_
  · rw [if_pos (by rfl)]
    refine wp_load_row 51 (.tmp 4) (by rfl) z (by (go_simp; try rfl)) 51 #[.int .i64 k0, .int .i64 0, .string ⟨#[]⟩, .int .i64 0, .int .i64 0, .bool false, .slice none 0 0, .slice none 0 0, .slice none 0 0, .string ⟨#[]⟩, .int .i64 0, .int .i64 0, .slice none 0 0, .slice none 0 0, .string ⟨#[]⟩, .string ⟨#[]⟩, .int .i64 0, .string ⟨#[]⟩, .string ⟨#[]⟩, .string ⟨#[]⟩, .int .i64 0, .string ⟨#[]⟩, .int .i64 0] (0, 0) _ HB.out.drew.fz Try.underlying51 rfl size51 ?_
    refine hK.out _ _ (trivial) (fun hHeld => ?_)
    clear hK K; try simp only [Act.put, s1, s2, s3]
    refine wpAnyH_ready (rs := [3]) (by kernel_rfl) (by simp) ?_
    refine AllReadyH.cons rfl (fun K hK => ?_) ?_
    · rw [if_pos (by rfl)]
      go_simp
      go_at_call 58
      refine (rest_any (opRq k0) Sl0 Sl0 Sl0 Sl0 Sl0 r1 hz1 _).mono ?_
      rw [← HQ.out, H2.out]
      rintro e wO ⟨rfl, hbO⟩
      dsimp only
      have HBO := Lib.hid (HB.out.drew.belowQ hbO rfl)
      clear hbO
      refine hK.out _ _ (trivial) (fun hHeld => ?_)
      clear hK K; try simp only [Act.put, s1, s2, s3]
      refine tk 4 30 (.tuple #[.agg (rq qR Sl0 Sl0 Sl0 Sl0 Sl0), .bool true]) ?_; (try simp only [s1, s2, s3]); refine tk 5 35 (.agg (rq qR Sl0 Sl0 Sl0 Sl0 Sl0)) ?_; (try simp only [s1, s2, s3]); refine tk 6 36 (.bool true) ?_; (try simp only [s1, s2, s3])
      refine wpAnyH_ready (rs := [7]) (by kernel_rfl) (by simp) ?_
      refine AllReadyH.cons rfl (fun K hK => ?_) ?_
      · rw [if_pos (by rfl)]
        refine wp_store_row 51 (.tmp 4) (.tmp 35) rfl z (rq qR Sl0 Sl0 Sl0 Sl0 Sl0) (by (go_simp; try rfl)) (by (go_simp; try rfl)) 51 _ HBO.out.fz size51 rfl (rq_one _ _ _ _ _ _) ?_
        have HB7 := Lib.hid (HBO.out.setRow (rq qR Sl0 Sl0 Sl0 Sl0 Sl0))
        generalize wO.setRow z (rq qR Sl0 Sl0 Sl0 Sl0 Sl0) = w7 at HB7 ⊢
        refine hK.out _ _ (trivial) (fun hHeld => ?_)
        clear hK K; try simp only [Act.put, s1, s2, s3]
        refine tk 8 7 (.bool true) ?_; (try simp only [s1, s2, s3])
        refine wpAnyH_done (by kernel_rfl) ?_ _
        repeat clear hHeld
        clear hS0
        go_upto_region 11 with (fail)
        repeat (first | ((refine wp_load_row 51 (.tmp 4) rfl z rfl 51 _ (0, 0) _ HB7.out.fz Try.underlying51 rfl size51 ?_); try simp only [Act.put, s1, s2, s3]) | go_values | go_skip | go_guarded | go_step)
        go_wp2_with (fail)
        refine (right26_any qR Sl0 Sl0 Sl0 Sl0 Sl0 (by rw [HOB.out]; exact zero_len) _ (by rw [HOB.out]; exact RowsR.zero _)).mono ?_
        rw [show rightB qR = true by rw [HQ.out]; exact H3.out]
        rintro e w8 ⟨rfl, hb8⟩
        have HB8 := Lib.hid (HB7.out.belowQ hb8 rfl)
        clear hb8
        dsimp only
        rename_i hK
        refine hK _ _ ?_
        clear hK
        go_upto_region 13 with (fail)
        iterate 1 (first | go_values | go_skip | go_guarded | go_step)
        refine wpList_load_row rfl 51 (.tmp 4) rfl z rfl 51 _ (0, 0) _ HB8.out.fz Try.underlying51 rfl size51 ?_
        have hBE := HB8.out
        refine wpList_store_row rfl 51 (.tmp 2) (.tmp 45) rfl y (rq qR Sl0 Sl0 Sl0 Sl0 Sl0) rfl rfl 51 _ hBE.fy size51 rfl (by simp [Value.oneCell', rq]) ?_
        have HBE := Lib.hid hBE
        clear hBE
        go_wp2
        refine bodyPost_ret (results_ct rfl _ _ y 51 (rq qR Sl0 Sl0 Sl0 Sl0 Sl0) (0, 0) _ rfl (setRow_heap _ _ _ _ _ _ HBE.out.fy) Try.underlying51 rfl size51) rfl ⟨Sl0, Sl0, Sl0, Sl0, Sl0, ?_, ?_, ?_⟩
        · rw [HS.out]; rw [← HQ.out]; rfl
        · rw [HS.out]; rw [← HQ.out, HOB.out]; exact RowsR.zero _
        · exact HBE.out.b.trans ⟨rfl, rfl, rfl, by rw [size_setRow]; exact Nat.le_refl _, fun j hj => setRow_other _ _ _ _ (by rw [HY.out]; omega)⟩
      exact AllReadyH.nil
    exact AllReadyH.nil
  exact AllReadyH.nil
set_option maxRecDepth 100000 in
set_option maxHeartbeats 4000000 in
theorem unpackq_wb (s : ByteArray) (hs : s.size ≤ 500000) (h0 : ¬ s.size = 0) (h1 : wholeB (byte0 s) = true) (h2 : ¬ (unpackS (from1 s)).2 = 0) (w : World) :
    Calls Try.prog 31 #[.string s] w fun e w' => ∃ f l c p i, e = .returned (.tuple #[.agg (rq (unpackRq s).1 f l c p i), .int .i64 (unpackRq s).2]) ∧ RowsR w' (unpackRq s).1.ob f l c p i ∧ Below w.heap.size w w' := by
  have hS : unpackRq s = (zeroRq, 4) := by unfold unpackRq; rw [if_neg h0, if_pos h1, if_neg h2]
  have HS := Lib.hid hS
  clear hS
  obtain ⟨w1, hw1, b1, p1⟩ := one_rq w zrq
  obtain ⟨y, hy⟩ : ∃ y, y = w.heap.size := ⟨_, rfl⟩
  rw [← hy] at p1
  have HW := Lib.hid hw1
  have HY := Lib.hid hy
  obtain ⟨r1, hr1⟩ : ∃ r1, r1 = from1 s := ⟨_, rfl⟩
  obtain ⟨k0, hk0⟩ : ∃ k0, k0 = byte0 s := ⟨_, rfl⟩
  have hz1 : r1.size ≤ 500000 := by rw [hr1]; unfold from1; rw [ByteArray.size_extract]; omega
  have e0 : s.toList.isEmpty = false := not_empty h0
  have ix := ix0 s (by omega)
  have hl : ∀ W, (Instr.slice 9 (.string s) (some (.int .i64 1)) none none).run Try.prog W = .ok (.string (from1 s)) W := sl1 s 1 1 rfl (by omega)
  have g0 := byte0_lt s
  have g1 := g0.1
  have g2 := g0.2
  have wx : IntKind.i64.wrap (byte0 s) = byte0 s := (by rw [IntKind.wrap_i64]; omega)
  rw [← hk0] at ix g1 g2 wx h1
  rw [← hr1] at hl h2
  clear g0 h0 hk0 hr1
  obtain ⟨z, hz⟩ : ∃ z, z = w1.heap.size := ⟨_, rfl⟩
  have b2 := bel_allocRow51 w1 zrq #[.int .i64 k0, .int .i64 0, .string ⟨#[]⟩, .int .i64 0, .int .i64 0, .bool false, .slice none 0 0, .slice none 0 0, .slice none 0 0, .string ⟨#[]⟩, .int .i64 0, .int .i64 0, .slice none 0 0, .slice none 0 0, .string ⟨#[]⟩, .string ⟨#[]⟩, .int .i64 0, .string ⟨#[]⟩, .string ⟨#[]⟩, .string ⟨#[]⟩, .int .i64 0, .string ⟨#[]⟩, .int .i64 0]
  obtain ⟨w2, hw2⟩ : ∃ w2, w2 = (w1.alloc (.cells zrq 51)).setRow w1.heap.size #[.int .i64 k0, .int .i64 0, .string ⟨#[]⟩, .int .i64 0, .int .i64 0, .bool false, .slice none 0 0, .slice none 0 0, .slice none 0 0, .string ⟨#[]⟩, .int .i64 0, .int .i64 0, .slice none 0 0, .slice none 0 0, .string ⟨#[]⟩, .string ⟨#[]⟩, .int .i64 0, .string ⟨#[]⟩, .string ⟨#[]⟩, .string ⟨#[]⟩, .int .i64 0, .string ⟨#[]⟩, .int .i64 0] := ⟨_, rfl⟩
  rw [← hw2] at b2
  have f2 : w2.heap[z]? = some (.cells #[.int .i64 k0, .int .i64 0, .string ⟨#[]⟩, .int .i64 0, .int .i64 0, .bool false, .slice none 0 0, .slice none 0 0, .slice none 0 0, .string ⟨#[]⟩, .int .i64 0, .int .i64 0, .slice none 0 0, .slice none 0 0, .string ⟨#[]⟩, .string ⟨#[]⟩, .int .i64 0, .string ⟨#[]⟩, .string ⟨#[]⟩, .string ⟨#[]⟩, .int .i64 0, .string ⟨#[]⟩, .int .i64 0] 51 (0, 0)) := by rw [hw2, hz]; exact setRow_heap _ _ _ _ _ _ (G.heap_new _ _)
  have hyz : y < w1.heap.size := (Array.getElem?_eq_some_iff.1 p1).1
  have hB0 : BQ w z z y #[.int .i64 k0, .int .i64 0, .string ⟨#[]⟩, .int .i64 0, .int .i64 0, .bool false, .slice none 0 0, .slice none 0 0, .slice none 0 0, .string ⟨#[]⟩, .int .i64 0, .int .i64 0, .slice none 0 0, .slice none 0 0, .string ⟨#[]⟩, .string ⟨#[]⟩, .int .i64 0, .string ⟨#[]⟩, .string ⟨#[]⟩, .string ⟨#[]⟩, .int .i64 0, .string ⟨#[]⟩, .int .i64 0] #[] zrq w2 := ⟨f2, fun h => absurd rfl h, (b2.block y hyz).trans p1, b1.trans (belowLe b1.size b2), by omega, by omega⟩
  have c0 : w2.cell? ⟨z, 0, none⟩ = some (.int .i64 k0) := by simp [World.cell?, f2]
  have HC := Lib.hid c0
  have HB := Lib.hid hB0
  have HW2 := Lib.hid hw2
  have HWH := Lib.hid h1
  have H2 := Lib.hid h2
  clear b1 p1 b2 f2 hyz hB0 c0 hw1 hw2 h1 h2
  go_enter Try.func31, Try.ntmps31
  go_upto_region 1 with (fail)
  rw [← HW.out, ← hy]
  clear hy
  go_upto_region 3 with (fail)
  iterate 16 (first | go_values | go_skip | go_guarded | go_step)
  refine wpList_store_row rfl 51 (.tmp 4) (.tmp 14) rfl _ #[.int .i64 k0, .int .i64 0, .string ⟨#[]⟩, .int .i64 0, .int .i64 0, .bool false, .slice none 0 0, .slice none 0 0, .slice none 0 0, .string ⟨#[]⟩, .int .i64 0, .int .i64 0, .slice none 0 0, .slice none 0 0, .string ⟨#[]⟩, .string ⟨#[]⟩, .int .i64 0, .string ⟨#[]⟩, .string ⟨#[]⟩, .string ⟨#[]⟩, .int .i64 0, .string ⟨#[]⟩, .int .i64 0] rfl rfl 51 _ (G.heap_new _ _) size51 rfl (by simp [Value.oneCell', zrq]) ?_
  rw [← HW2.out, ← hz]
  clear hz
  have c0 := HC.out
  go_upto_region 5 with (go_at_call 55; refine (whole_any k0 _ HWH.out _).mono ?_; rintro e w4 ⟨rfl, hw4⟩; have hw5 := hw4.symm; clear hw4; subst hw5)
  clear c0
  obtain ⟨oU, hoU⟩ : ∃ oU, oU = (unpackS r1).1 := ⟨_, rfl⟩
  obtain ⟨eU, heU⟩ : ∃ eU, eU = (unpackS r1).2 := ⟨_, rfl⟩
  have HQ := Lib.hid hoU
  have HE := Lib.hid heU
  have hzw := (HB.out.fz)
  have HLT := Lib.hid (Array.getElem?_eq_some_iff.1 hzw).1
  clear hzw hoU heU
  go_wp2_with (fail)
  refine (unpack_any r1 (by omega) _).mono ?_
  rw [← HQ.out, ← HE.out]
  rintro e w3 ⟨f, l, c, p, i, rfl, ow, hb3⟩
  have hB3 := HB.out.belowQ hb3 rfl
  have b4 := bel_allocRow w3 zob (oc oU f l c p i) 32
  obtain ⟨u, hu⟩ : ∃ u, u = w3.heap.size := ⟨_, rfl⟩
  obtain ⟨w4, hw4⟩ : ∃ w4, w4 = (w3.alloc (.cells zob 32)).setRow w3.heap.size (oc oU f l c p i) := ⟨_, rfl⟩
  rw [← hw4] at b4
  have t4 : w4.heap[u]? = some (.cells (oc oU f l c p i) 32 (0, 0)) := by rw [hw4, hu]; exact setRow_heap _ _ _ _ _ _ (G.heap_new _ _)
  have T4 := Lib.hid t4
  have HB4 := Lib.hid (hB3.belowQ b4 rfl)
  have O4 := Lib.hid (ow.below b4)
  have HW4 := Lib.hid hw4
  have HU := Lib.hid hu
  clear hb3 hB3 b4 ow t4 hw4 hu
  dsimp only
  rename_i hK
  refine hK _ _ ?_
  clear hK
  have ke : (eU != 0) = true := by rw [HE.out]; simpa using H2.out
  go_upto_region 7 with ((refine wpList_store_row rfl 32 (.tmp 5) (.tmp 22) rfl _ (oc oU f l c p i) rfl rfl 32 _ (G.heap_new _ _) size32 rfl (oc_one oU f l c p i) ?_); rw [← HW4.out, ← HU.out])
  clear ke
  iterate 4 (first | go_values | go_skip | go_guarded | go_step)
  have hBE := HB4.out
  refine wpList_store_row rfl 51 (.tmp 2) (.tmp 26) rfl y (zrq) rfl rfl 51 _ hBE.fy size51 rfl (by simp [Value.oneCell', rq]) ?_
  have HBE := Lib.hid hBE
  clear hBE
  go_wp2
  refine bodyPost_ret (results_ct rfl _ _ y 51 (zrq) (0, 0) _ rfl (setRow_heap _ _ _ _ _ _ HBE.out.fy) Try.underlying51 rfl size51) rfl ⟨Sl0, Sl0, Sl0, Sl0, Sl0, ?_, ?_, ?_⟩
  · rw [HS.out]; rfl
  · rw [HS.out]; exact RowsR.zero _
  · exact HBE.out.b.trans ⟨rfl, rfl, rfl, by rw [size_setRow]; exact Nat.le_refl _, fun j hj => setRow_other _ _ _ _ (by rw [HY.out]; omega)⟩
set_option maxRecDepth 100000 in
set_option maxHeartbeats 4000000 in
theorem unpackq_wg (s : ByteArray) (hs : s.size ≤ 500000) (h0 : ¬ s.size = 0) (h1 : wholeB (byte0 s) = true) (h2 : (unpackS (from1 s)).2 = 0) (w : World) :
    Calls Try.prog 31 #[.string s] w fun e w' => ∃ f l c p i, e = .returned (.tuple #[.agg (rq (unpackRq s).1 f l c p i), .int .i64 (unpackRq s).2]) ∧ RowsR w' (unpackRq s).1.ob f l c p i ∧ Below w.heap.size w w' := by
  have hS : unpackRq s = ({ opRq (byte0 s) with ob := (unpackS (from1 s)).1 }, 0) := by unfold unpackRq; rw [if_neg h0, if_pos h1, if_pos h2]
  have HS := Lib.hid hS
  clear hS
  obtain ⟨w1, hw1, b1, p1⟩ := one_rq w zrq
  obtain ⟨y, hy⟩ : ∃ y, y = w.heap.size := ⟨_, rfl⟩
  rw [← hy] at p1
  have HW := Lib.hid hw1
  have HY := Lib.hid hy
  obtain ⟨r1, hr1⟩ : ∃ r1, r1 = from1 s := ⟨_, rfl⟩
  obtain ⟨k0, hk0⟩ : ∃ k0, k0 = byte0 s := ⟨_, rfl⟩
  have hz1 : r1.size ≤ 500000 := by rw [hr1]; unfold from1; rw [ByteArray.size_extract]; omega
  have e0 : s.toList.isEmpty = false := not_empty h0
  have ix := ix0 s (by omega)
  have hl : ∀ W, (Instr.slice 9 (.string s) (some (.int .i64 1)) none none).run Try.prog W = .ok (.string (from1 s)) W := sl1 s 1 1 rfl (by omega)
  have g0 := byte0_lt s
  have g1 := g0.1
  have g2 := g0.2
  have wx : IntKind.i64.wrap (byte0 s) = byte0 s := (by rw [IntKind.wrap_i64]; omega)
  rw [← hk0, ← hr1] at HS
  rw [← hk0] at ix g1 g2 wx h1
  rw [← hr1] at hl h2
  clear g0 h0 hk0 hr1
  obtain ⟨z, hz⟩ : ∃ z, z = w1.heap.size := ⟨_, rfl⟩
  have b2 := bel_allocRow51 w1 zrq #[.int .i64 k0, .int .i64 0, .string ⟨#[]⟩, .int .i64 0, .int .i64 0, .bool false, .slice none 0 0, .slice none 0 0, .slice none 0 0, .string ⟨#[]⟩, .int .i64 0, .int .i64 0, .slice none 0 0, .slice none 0 0, .string ⟨#[]⟩, .string ⟨#[]⟩, .int .i64 0, .string ⟨#[]⟩, .string ⟨#[]⟩, .string ⟨#[]⟩, .int .i64 0, .string ⟨#[]⟩, .int .i64 0]
  obtain ⟨w2, hw2⟩ : ∃ w2, w2 = (w1.alloc (.cells zrq 51)).setRow w1.heap.size #[.int .i64 k0, .int .i64 0, .string ⟨#[]⟩, .int .i64 0, .int .i64 0, .bool false, .slice none 0 0, .slice none 0 0, .slice none 0 0, .string ⟨#[]⟩, .int .i64 0, .int .i64 0, .slice none 0 0, .slice none 0 0, .string ⟨#[]⟩, .string ⟨#[]⟩, .int .i64 0, .string ⟨#[]⟩, .string ⟨#[]⟩, .string ⟨#[]⟩, .int .i64 0, .string ⟨#[]⟩, .int .i64 0] := ⟨_, rfl⟩
  rw [← hw2] at b2
  have f2 : w2.heap[z]? = some (.cells #[.int .i64 k0, .int .i64 0, .string ⟨#[]⟩, .int .i64 0, .int .i64 0, .bool false, .slice none 0 0, .slice none 0 0, .slice none 0 0, .string ⟨#[]⟩, .int .i64 0, .int .i64 0, .slice none 0 0, .slice none 0 0, .string ⟨#[]⟩, .string ⟨#[]⟩, .int .i64 0, .string ⟨#[]⟩, .string ⟨#[]⟩, .string ⟨#[]⟩, .int .i64 0, .string ⟨#[]⟩, .int .i64 0] 51 (0, 0)) := by rw [hw2, hz]; exact setRow_heap _ _ _ _ _ _ (G.heap_new _ _)
  have hyz : y < w1.heap.size := (Array.getElem?_eq_some_iff.1 p1).1
  have hB0 : BQ w z z y #[.int .i64 k0, .int .i64 0, .string ⟨#[]⟩, .int .i64 0, .int .i64 0, .bool false, .slice none 0 0, .slice none 0 0, .slice none 0 0, .string ⟨#[]⟩, .int .i64 0, .int .i64 0, .slice none 0 0, .slice none 0 0, .string ⟨#[]⟩, .string ⟨#[]⟩, .int .i64 0, .string ⟨#[]⟩, .string ⟨#[]⟩, .string ⟨#[]⟩, .int .i64 0, .string ⟨#[]⟩, .int .i64 0] #[] zrq w2 := ⟨f2, fun h => absurd rfl h, (b2.block y hyz).trans p1, b1.trans (belowLe b1.size b2), by omega, by omega⟩
  have c0 : w2.cell? ⟨z, 0, none⟩ = some (.int .i64 k0) := by simp [World.cell?, f2]
  have HC := Lib.hid c0
  have HB := Lib.hid hB0
  have HW2 := Lib.hid hw2
  have HWH := Lib.hid h1
  have H2 := Lib.hid h2
  clear b1 p1 b2 f2 hyz hB0 c0 hw1 hw2 h1 h2
  go_enter Try.func31, Try.ntmps31
  go_upto_region 1 with (fail)
  rw [← HW.out, ← hy]
  clear hy
  go_upto_region 3 with (fail)
  iterate 16 (first | go_values | go_skip | go_guarded | go_step)
  refine wpList_store_row rfl 51 (.tmp 4) (.tmp 14) rfl _ #[.int .i64 k0, .int .i64 0, .string ⟨#[]⟩, .int .i64 0, .int .i64 0, .bool false, .slice none 0 0, .slice none 0 0, .slice none 0 0, .string ⟨#[]⟩, .int .i64 0, .int .i64 0, .slice none 0 0, .slice none 0 0, .string ⟨#[]⟩, .string ⟨#[]⟩, .int .i64 0, .string ⟨#[]⟩, .string ⟨#[]⟩, .string ⟨#[]⟩, .int .i64 0, .string ⟨#[]⟩, .int .i64 0] rfl rfl 51 _ (G.heap_new _ _) size51 rfl (by simp [Value.oneCell', zrq]) ?_
  rw [← HW2.out, ← hz]
  clear hz
  have c0 := HC.out
  go_upto_region 5 with (go_at_call 55; refine (whole_any k0 _ HWH.out _).mono ?_; rintro e w4 ⟨rfl, hw4⟩; have hw5 := hw4.symm; clear hw4; subst hw5)
  clear c0
  obtain ⟨oU, hoU⟩ : ∃ oU, oU = (unpackS r1).1 := ⟨_, rfl⟩
  obtain ⟨eU, heU⟩ : ∃ eU, eU = (unpackS r1).2 := ⟨_, rfl⟩
  have HQ := Lib.hid hoU
  have HE := Lib.hid heU
  have hzw := (HB.out.fz)
  have HLT := Lib.hid (Array.getElem?_eq_some_iff.1 hzw).1
  clear hzw hoU heU
  go_wp2_with (fail)
  refine (unpack_any r1 (by omega) _).mono ?_
  rw [← HQ.out, ← HE.out]
  rintro e w3 ⟨f, l, c, p, i, rfl, ow, hb3⟩
  have hB3 := HB.out.belowQ hb3 rfl
  have b4 := bel_allocRow w3 zob (oc oU f l c p i) 32
  obtain ⟨u, hu⟩ : ∃ u, u = w3.heap.size := ⟨_, rfl⟩
  obtain ⟨w4, hw4⟩ : ∃ w4, w4 = (w3.alloc (.cells zob 32)).setRow w3.heap.size (oc oU f l c p i) := ⟨_, rfl⟩
  rw [← hw4] at b4
  have t4 : w4.heap[u]? = some (.cells (oc oU f l c p i) 32 (0, 0)) := by rw [hw4, hu]; exact setRow_heap _ _ _ _ _ _ (G.heap_new _ _)
  have T4 := Lib.hid t4
  have HB4 := Lib.hid (hB3.belowQ b4 rfl)
  have O4 := Lib.hid (ow.below b4)
  have HW4 := Lib.hid hw4
  have HU := Lib.hid hu
  clear hb3 hB3 b4 ow t4 hw4 hu
  dsimp only
  rename_i hK
  refine hK _ _ ?_
  clear hK
  have ke : (eU != 0) = false := by rw [HE.out, H2.out]; rfl
  go_upto_region 8 with ((refine wpList_store_row rfl 32 (.tmp 5) (.tmp 22) rfl _ (oc oU f l c p i) rfl rfl 32 _ (G.heap_new _ _) size32 rfl (oc_one oU f l c p i) ?_); rw [← HW4.out, ← HU.out])
  clear ke
  iterate 1 (first | go_values | go_skip | go_guarded | go_step)
  refine wpList_load_row rfl 32 (.tmp 5) rfl u rfl 32 _ (0, 0) _ T4.out Try.underlying32 rfl size32 ?_
  try simp only [Act.put, s1, s2, s3]
  iterate 3 (first | go_values | go_skip | go_guarded | go_step)
  refine storeQobG (q := opRq k0) (f := Sl0) (l := Sl0) (c := Sl0) (p := Sl0) (i := Sl0) rfl (.tmp 28) (.tmp 27) rfl rfl rfl ⟨oU, f, l, c, p, i⟩ rfl HB4.out ?_
  intro w5 hB5 gr5
  have HB5 := Lib.hid hB5
  have O5 := Lib.hid (O4.out.grown gr5 HLT.out)
  clear hB5 gr5
  go_upto_region 9 with (fail)
  iterate 1 (first | go_values | go_skip | go_guarded | go_step)
  refine wpList_load_row rfl 51 (.tmp 4) rfl z rfl 51 _ (0, 0) _ HB5.out.fz Try.underlying51 rfl size51 ?_
  have hBE := HB5.out
  refine wpList_store_row rfl 51 (.tmp 2) (.tmp 29) rfl y (rq { opRq k0 with ob := oU } f l c p i) rfl rfl 51 _ hBE.fy size51 rfl (by simp [Value.oneCell', rq]) ?_
  have HBE := Lib.hid hBE
  clear hBE
  go_wp2
  refine bodyPost_ret (results_ct rfl _ _ y 51 (rq { opRq k0 with ob := oU } f l c p i) (0, 0) _ rfl (setRow_heap _ _ _ _ _ _ HBE.out.fy) Try.underlying51 rfl size51) rfl ⟨f, l, c, p, i, ?_, ?_, ?_⟩
  · rw [HS.out]; rw [← HQ.out]; rfl
  · rw [HS.out]; rw [← HQ.out]; exact RowsR.of_owns (O5.out.row (by have h1 := HLT.out; have h2 := (Array.getElem?_eq_some_iff.1 HB.out.fy).1; omega))
  · exact HBE.out.b.trans ⟨rfl, rfl, rfl, by rw [size_setRow]; exact Nat.le_refl _, fun j hj => setRow_other _ _ _ _ (by rw [HY.out]; omega)⟩
theorem unpackq_any (s : ByteArray) (hs : s.size ≤ 500000) (w : World) : Calls Try.prog 31 #[.string s] w fun e w' => ∃ f l c p i, e = .returned (.tuple #[.agg (rq (unpackRq s).1 f l c p i), .int .i64 (unpackRq s).2]) ∧ RowsR w' (unpackRq s).1.ob f l c p i ∧ Below w.heap.size w w' := by
  by_cases h0 : s.size = 0
  · exact unpackq_e s hs h0 w
  rcases h1 : wholeB (byte0 s) with _ | _
  · rcases h2 : (restS (opRq (byte0 s)) (from1 s)).2 with _ | _
    · exact unpackq_rb s hs h0 h1 h2 w
    · rcases h3 : rightB (restS (opRq (byte0 s)) (from1 s)).1 with _ | _
      · exact unpackq_rr s hs h0 h1 h2 h3 w
      · exact unpackq_rg s hs h0 h1 h2 h3 w
  · by_cases h2 : (unpackS (from1 s)).2 = 0
    · exact unpackq_wg s hs h0 h1 h2 w
    · exact unpackq_wb s hs h0 h1 h2 w
end Go.Proofs.Ytolndeolehkjoaa
