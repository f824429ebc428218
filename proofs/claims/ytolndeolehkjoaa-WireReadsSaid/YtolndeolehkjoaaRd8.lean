/- The object that bytes begin with. -/
import Derived.Test.YtolndeolehkjoaaRd7
namespace Go.Proofs.Ytolndeolehkjoaa
set_option linter.unusedVariables false
set_option linter.unusedSimpArgs false
open Go.RowKit CodP
theorem results_ctt {P : Program} {fn : Func} {p u v : Tmp} {ty : TypeId} (h : fn.results = #[.cell p ty, .tmp u, .tmp v]) (tmps : Array Value) (w : World) (g : Nat) (t : TypeId) (cs : Array Value) (fr : Nat × Nat) (d : TypeDesc)
    (hp : tmps.getD p undef = .pointer (some ⟨g, 0, none⟩)) (hg : w.heap[g]? = some (.cells cs t fr))
    (hu : P.underlying ty = some d) (hd : (match d with | .struct _ | .array _ _ => true | _ => false) = true) (hi : (P.info? ty).map (·.size) = some cs.size) :
    (results fn tmps).run P w = .ok (.tuple #[.agg cs, tmps.getD u undef, tmps.getD v undef]) w := by
  have hp' : tmps[p]?.getD undef = .pointer (some ⟨g, 0, none⟩) := by simpa using hp
  simp [results, h, hp', asAddr, run_loadVar_row w g t ty cs fr d hg hu hd hi]
theorem results_ct {P : Program} {fn : Func} {p u : Tmp} {ty : TypeId} (h : fn.results = #[.cell p ty, .tmp u]) (tmps : Array Value) (w : World) (g : Nat) (t : TypeId) (cs : Array Value) (fr : Nat × Nat) (d : TypeDesc)
    (hp : tmps.getD p undef = .pointer (some ⟨g, 0, none⟩)) (hg : w.heap[g]? = some (.cells cs t fr))
    (hu : P.underlying ty = some d) (hd : (match d with | .struct _ | .array _ _ => true | _ => false) = true) (hi : (P.info? ty).map (·.size) = some cs.size) :
    (results fn tmps).run P w = .ok (.tuple #[.agg cs, tmps.getD u undef]) w := by
  have hp' : tmps[p]?.getD undef = .pointer (some ⟨g, 0, none⟩) := by simpa using hp
  simp [results, h, hp', asAddr, run_loadVar_row w g t ty cs fr d hg hu hd hi]
theorem ObOwn.below {w w1 : World} {B : Nat} {o : Ob} {f l c p i : Sl} (h : ObOwn w B o f l c p i) (hb : Below w.heap.size w w1) : ObOwn w1 B o f l c p i :=
  ⟨G.owns_below h.fr hb, G.owns_below h.lr hb, G.owns_below h.cr hb, G.owns_below h.pr hb, G.owns_below h.ir hb⟩
section
variable {P : Program} {ops : Array Oper} {Q : Exit → Act → World → Prop} {md : Region.Mode} {S : World → Prop}
theorem takeH {i : Nat} {oi : Oper} {fuel : Nat} {listed : Array Bool} {a : Act} {w : World} (t : Nat) (v : Value) (hi : ops[i]? = some oi) (hd : oi.dst = some t)
    (hs : Region.noSelect ops = true) (hf : Region.free md ops listed i = true) (hr : (Region.ready md ops listed).contains i = true)
    (hQ : ∀ c a w, Q (.panic c) (a.put oi.dst v) w → Q (.panic c) a w) (hy : Region.wanted oi (yielded ops a.tmps) = true) (hv : ∀ w, S w → (execOp a.eval oi).run P w = .ok (.value v) w) (hS : S w)
    (h : wpAnyH P md ops Q S fuel (listed.setIfInBounds i true) ⟨a.tmps.setIfInBounds t v, a.defers⟩ w) : wpAnyH P md ops Q S (fuel + 1) listed a w :=
  wpAnyH_take hi hs hf hr hQ (.inl ⟨hy, hv⟩) hS (by rw [hd]; exact h)
theorem load_row_yields {a : Act} {op : Oper} (ty : TypeId) (x : Operand) (ho : op.op = .load ty x) (g : Nat) (hx : a.eval x = .pointer (some ⟨g, 0, none⟩)) (t : TypeId) (cs : Array Value) (fr : Nat × Nat) (d : TypeDesc)
    (hS : ∀ w, S w → w.heap[g]? = some (.cells cs t fr)) (hu : P.underlying ty = some d) (hd : (match d with | .struct _ | .array _ _ => true | _ => false) = true) (hi : (P.info? ty).map (·.size) = some cs.size) :
    ∀ w, S w → (execOp a.eval op).run P w = .ok (.value (.agg cs)) w := fun w hw => by
  unfold execOp
  simp only [ho, hx, Instr.loadAt, Instr.sureAddr, Sem.run_bind, Sem.run_pure, Result.andThen_ok, run_loadVar_row w g t ty cs fr d (hS w hw) hu hd hi]
end
theorem z19 : #[.int .i64 0, .string ⟨#[]⟩, .int .i64 0, .int .i64 0, .bool false, .slice none 0 0, .slice none 0 0, .slice none 0 0, .string ⟨#[]⟩, .int .i64 0, .int .i64 0, .slice none 0 0, .slice none 0 0, .string ⟨#[]⟩, .string ⟨#[]⟩, .int .i64 0, .string ⟨#[]⟩, .string ⟨#[]⟩, .string ⟨#[]⟩] = oc zeroOb Sl0 Sl0 Sl0 Sl0 Sl0 := rfl
set_option maxRecDepth 100000 in
set_option maxHeartbeats 2000000 in
theorem first_any (s : ByteArray) (hs : s.size ≤ 1000000) (w : World) :
    Calls Try.prog 17 #[.string s] w fun x w' => ∃ f l c p i, x = .returned (.tuple #[.agg (oc (firstS s).1 f l c p i), .int .i64 (firstS s).2.1, .int .i64 (firstS s).2.2]) ∧ ObOwn w' w.heap.size (firstS s).1 f l c p i ∧ Below w.heap.size w w' := by
  obtain ⟨w1, hw1⟩ : ∃ w1, w1 = (w.alloc (.cells #[.int .i64 0, .string ⟨#[]⟩, .int .i64 0, .int .i64 0, .bool false, .slice none 0 0, .slice none 0 0, .slice none 0 0, .string ⟨#[]⟩, .int .i64 0, .int .i64 0, .slice none 0 0, .slice none 0 0, .string ⟨#[]⟩, .string ⟨#[]⟩, .int .i64 0, .string ⟨#[]⟩, .string ⟨#[]⟩, .string ⟨#[]⟩] 32)).alloc (.cells #[.string s, .int .i64 0, .int .i64 0] 82) := ⟨_, rfl⟩
  have hs1 : w1.heap.size = w.heap.size + 2 := by rw [hw1]; simp
  have r1 : RdAt w1 (w.heap.size + 1) s (0, 0) := by
    rw [hw1]
    refine ⟨?_, Nat.zero_le _, hs⟩
    have h2 := G.heap_new (w.alloc (.cells #[.int .i64 0, .string ⟨#[]⟩, .int .i64 0, .int .i64 0, .bool false, .slice none 0 0, .slice none 0 0, .slice none 0 0, .string ⟨#[]⟩, .int .i64 0, .int .i64 0, .slice none 0 0, .slice none 0 0, .string ⟨#[]⟩, .string ⟨#[]⟩, .int .i64 0, .string ⟨#[]⟩, .string ⟨#[]⟩, .string ⟨#[]⟩] 32)) (.cells #[.string s, .int .i64 0, .int .i64 0] 82)
    rw [show (w.alloc (.cells #[.int .i64 0, .string ⟨#[]⟩, .int .i64 0, .int .i64 0, .bool false, .slice none 0 0, .slice none 0 0, .slice none 0 0, .string ⟨#[]⟩, .int .i64 0, .int .i64 0, .slice none 0 0, .slice none 0 0, .string ⟨#[]⟩, .string ⟨#[]⟩, .int .i64 0, .string ⟨#[]⟩, .string ⟨#[]⟩, .string ⟨#[]⟩] 32)).heap.size = w.heap.size + 1 by simp] at h2
    exact h2
  have p1 : w1.heap[w.heap.size]? = some (.cells #[.int .i64 0, .string ⟨#[]⟩, .int .i64 0, .int .i64 0, .bool false, .slice none 0 0, .slice none 0 0, .slice none 0 0, .string ⟨#[]⟩, .int .i64 0, .int .i64 0, .slice none 0 0, .slice none 0 0, .string ⟨#[]⟩, .string ⟨#[]⟩, .int .i64 0, .string ⟨#[]⟩, .string ⟨#[]⟩, .string ⟨#[]⟩] 32 (0, 0)) := by
    rw [hw1]
    exact ((bel_alloc _ _).block _ (by simp)).trans (G.heap_new _ _)
  have b1 : Below w.heap.size w w1 := by rw [hw1]; exact G.bthen (bel_alloc _ _) (bel_alloc _ _)
  have ho := obj_any (w.heap.size + 1) s (0, 0) w1 r1
  have hF : firstS s = if (obI s (0, 0)).2.2 ≠ 0 then (zeroOb, 0, (obI s (0, 0)).2.2) else ((obI s (0, 0)).1, (obI s (0, 0)).2.1, 0) := rfl
  obtain ⟨⟨o, ⟨at1, e1⟩⟩, hx⟩ : ∃ y, y = obI s (0, 0) := ⟨_, rfl⟩
  rw [← hx] at ho hF
  have HF := Lib.hid hF
  have HO := Lib.hid ho
  have P1 := Lib.hid p1
  have B1 := Lib.hid b1
  have HW := Lib.hid hw1
  have HS := Lib.hid hs1
  clear ho hF hx p1 b1 hw1 r1 hs1 hs
  go_enter Try.func17, Try.ntmps17
  go_wp2_with (fail)
  rw [← HW.out]
  refine HO.out.mono ?_
  rintro e w2 ⟨f, l, c, p, i, rfl, ow, r2, g2⟩
  have b3 := bel_allocRow w2 #[.int .i64 0, .string ⟨#[]⟩, .int .i64 0, .int .i64 0, .bool false, .slice none 0 0, .slice none 0 0, .slice none 0 0, .string ⟨#[]⟩, .int .i64 0, .int .i64 0, .slice none 0 0, .slice none 0 0, .string ⟨#[]⟩, .string ⟨#[]⟩, .int .i64 0, .string ⟨#[]⟩, .string ⟨#[]⟩, .string ⟨#[]⟩] (oc o f l c p i) 32
  obtain ⟨w3, hw3⟩ : ∃ w3, w3 = (w2.alloc (.cells #[.int .i64 0, .string ⟨#[]⟩, .int .i64 0, .int .i64 0, .bool false, .slice none 0 0, .slice none 0 0, .slice none 0 0, .string ⟨#[]⟩, .int .i64 0, .int .i64 0, .slice none 0 0, .slice none 0 0, .string ⟨#[]⟩, .string ⟨#[]⟩, .int .i64 0, .string ⟨#[]⟩, .string ⟨#[]⟩, .string ⟨#[]⟩] 32)).setRow w2.heap.size (oc o f l c p i) := ⟨_, rfl⟩
  rw [← hw3] at b3
  have o3 : ObOwn w3 (w.heap.size + 2) o f l c p i := by rw [HS.out] at ow; exact ow.below b3
  have r3 : RdAt w3 (w.heap.size + 1) s (at1, e1) := r2.below b3
  have p3 : w3.heap[w.heap.size]? = some (.cells #[.int .i64 0, .string ⟨#[]⟩, .int .i64 0, .int .i64 0, .bool false, .slice none 0 0, .slice none 0 0, .slice none 0 0, .string ⟨#[]⟩, .int .i64 0, .int .i64 0, .slice none 0 0, .slice none 0 0, .string ⟨#[]⟩, .string ⟨#[]⟩, .int .i64 0, .string ⟨#[]⟩, .string ⟨#[]⟩, .string ⟨#[]⟩] 32 (0, 0)) :=
    ((b3.block _ (by have := g2.size; have := HS.out; omega)).trans (g2.block _ (by have := HS.out; omega) (by intro e; injection e with e; omega))).trans P1.out
  have t3 : w3.heap[w2.heap.size]? = some (.cells (oc o f l c p i) 32 (0, 0)) := by rw [hw3]; exact setRow_heap _ _ _ _ _ _ (G.heap_new _ _)
  have k3 : Below w.heap.size w w3 := by
    refine B1.out.trans ⟨b3.os.trans g2.os, b3.tape.trans g2.tape, b3.output.trans g2.output, Nat.le_trans g2.size b3.size, fun j hj => ?_⟩
    exact (b3.block j (by have := g2.size; have := HS.out; omega)).trans (g2.block j (by have := HS.out; omega) (by intro e; injection e with e; omega))
  have c2 := r3.cell2
  have c1 := r3.cell1
  have HW3 := Lib.hid hw3
  have O3 := Lib.hid o3
  have P3 := Lib.hid p3
  have T3 := Lib.hid t3
  have K3 := Lib.hid k3
  have LT := Lib.hid (show w.heap.size < w2.heap.size from by have := g2.size; have := HS.out; omega)
  obtain ⟨tb, htb⟩ : ∃ tb, tb = w2.heap.size := ⟨_, rfl⟩
  rw [← htb] at T3 LT
  clear r2 g2 b3 o3 r3 p3 t3 k3 ow
  dsimp only
  rename_i hK
  refine hK _ _ ?_
  iterate 3 (first | go_values | go_skip | go_guarded | go_step | go_upon)
  refine wpList_store_row rfl 32 (.tmp 6) (.tmp 11) rfl _ (oc o f l c p i) rfl rfl 32 _ (G.heap_new _ _) size32 rfl (oc_one o f l c p i) ?_
  rw [← hw3, ← htb]
  clear hK hw3 htb
  by_cases h0 : e1 = 0
  · subst h0
    have hF : firstS s = (o, at1, 0) := by rw [HF.out]; exact if_neg (fun h => h rfl)
    have HF2 := Lib.hid hF
    have C2 := Lib.hid c2
    clear hF c2
    have hz : ((0 : Int) != 0) = false := rfl
    have c2 : w3.cell? ⟨w.heap.size + 1, 2, none⟩ = some (.int .i64 0) := C2.out
    go_upto_region 5 with (fail)
    refine wp_region_held_drew (S := fun V => V.cell? ⟨w.heap.size + 1, 1, none⟩ = some (.int .i64 at1) ∧ V.heap[tb]? = some (.cells (oc o f l c p i) 32 (0, 0))) (by kernel_rfl) ⟨c1, T3.out⟩ (fun hS0 => ?_)
    refine takeH (i := 0) 22 (.agg (oc o f l c p i)) rfl rfl (by kernel_rfl) (by kernel_rfl) (by kernel_rfl) (fun _ _ _ h => h) (by rfl) ?_ (by assumption) ?_
    · exact load_row_yields 32 (.tmp 6) rfl tb rfl 32 (oc o f l c p i) (0, 0) _ (fun V hV => hV.2) Try.underlying32 rfl size32
    try simp only [List.setIfInBounds_toArray, List.set_cons_zero, List.set_cons_succ]
    refine takeH (i := 1) 23 (.pointer (some ⟨w.heap.size + 1, 0, none⟩)) rfl rfl (by kernel_rfl) (by kernel_rfl) (by kernel_rfl) (fun _ _ _ h => h) (by rfl) ?_ (by assumption) ?_
    · intro V hV; have hc := hV.1; clear hV; go_simp; try rfl
    try simp only [List.setIfInBounds_toArray, List.set_cons_zero, List.set_cons_succ]
    refine takeH (i := 2) 24 (.pointer (some ⟨w.heap.size + 1, 0, none⟩)) rfl rfl (by kernel_rfl) (by kernel_rfl) (by kernel_rfl) (fun _ _ _ h => h) (by rfl) ?_ (by assumption) ?_
    · intro V hV; have hc := hV.1; clear hV; go_simp; try rfl
    try simp only [List.setIfInBounds_toArray, List.set_cons_zero, List.set_cons_succ]
    refine takeH (i := 3) 25 (.pointer (some ⟨w.heap.size + 1, 1, none⟩)) rfl rfl (by kernel_rfl) (by kernel_rfl) (by kernel_rfl) (fun _ _ _ h => h) (by rfl) ?_ (by assumption) ?_
    · intro V hV; have hc := hV.1; clear hV; go_simp; try rfl
    try simp only [List.setIfInBounds_toArray, List.set_cons_zero, List.set_cons_succ]
    refine takeH (i := 4) 26 (.int .i64 at1) rfl rfl (by kernel_rfl) (by kernel_rfl) (by kernel_rfl) (fun _ _ _ h => h) (by rfl) ?_ (by assumption) ?_
    · intro V hV; have hc := hV.1; clear hV; go_simp; try rfl
    try simp only [List.setIfInBounds_toArray, List.set_cons_zero, List.set_cons_succ]
    refine wpAnyH_ready (rs := [5]) (by kernel_rfl) (by simp) ?_
    refine AllReadyH.cons rfl (fun K hK => ?_) AllReadyH.nil
    rw [if_pos (by rfl)]
    refine wp_store_row 32 (.tmp 2) (.tmp 22) rfl w.heap.size (oc o f l c p i) rfl rfl 32 _ P3.out size32 rfl (oc_one o f l c p i) ?_
    obtain ⟨w4, hw4⟩ : ∃ w4, w4 = w3.drew.setRow w.heap.size (oc o f l c p i) := ⟨_, rfl⟩
    have c4 : w4.cell? ⟨w.heap.size + 1, 1, none⟩ = some (.int .i64 at1) := by rw [hw4]; exact (cell_setRow_other _ _ _ _ (by simp)).trans c1
    have t4 : w4.heap[tb]? = some (.cells (oc o f l c p i) 32 (0, 0)) := by rw [hw4]; exact (setRow_other _ _ _ _ (by have := LT.out; omega)).trans T3.out
    have r4 : w4.heap[w.heap.size]? = some (.cells (oc o f l c p i) 32 (0, 0)) := by rw [hw4]; exact setRow_heap _ _ _ _ _ _ P3.out
    have o4 : ObOwn w4 w.heap.size o f l c p i := by
      rw [hw4]
      exact (ObOwn.row (w := w3.drew) (ObOwn.below O3.out ⟨rfl, rfl, rfl, Nat.le_refl _, fun _ _ => rfl⟩) (by omega)).mono (by omega)
    have k4 : Below w.heap.size w w4 := by
      rw [hw4]
      exact K3.out.trans ⟨rfl, rfl, rfl, by rw [size_setRow]; exact Nat.le_refl _, fun j hj => setRow_other _ _ _ _ (by omega)⟩
    rw [← hw4]
    clear hw4
    have R4 := Lib.hid r4
    have K4 := Lib.hid k4
    have O4 := Lib.hid o4
    refine hK.out _ _ ⟨c4, t4⟩ (fun hHeld => ?_)
    clear hK K r4 k4 o4
    try simp only [Act.put, List.setIfInBounds_toArray, List.set_cons_zero, List.set_cons_succ]
    refine takeH (i := 6) 3 (.int .i64 at1) rfl rfl (by kernel_rfl) (by kernel_rfl) (by kernel_rfl) (fun _ _ _ h => h) (by rfl) ?_ (by assumption) ?_
    · intro V hV; clear hV; go_simp; try rfl
    try simp only [List.setIfInBounds_toArray, List.set_cons_zero, List.set_cons_succ]
    refine takeH (i := 7) 4 (.int .i64 0) rfl rfl (by kernel_rfl) (by kernel_rfl) (by kernel_rfl) (fun _ _ _ h => h) (by rfl) ?_ (by assumption) ?_
    · intro V hV; clear hV; go_simp; try rfl
    try simp only [List.setIfInBounds_toArray, List.set_cons_zero, List.set_cons_succ]
    refine wpAnyH_done (by kernel_rfl) ?_ _
    go_wp2
    refine bodyPost_ret (results_ctt rfl _ _ w.heap.size 32 _ (0, 0) _ rfl R4.out Try.underlying32 rfl size32) rfl ⟨f, l, c, p, i, ?_, ?_, K4.out⟩
    · rw [HF2.out]; rfl
    · rw [HF2.out]; exact O4.out
  · have h1 : (e1 != 0) = true := by simpa using h0
    have hF : firstS s = (zeroOb, 0, e1) := by rw [HF.out]; exact if_pos h0
    have HF2 := Lib.hid hF
    clear hF h0 c1
    go_upto_region 4 with (fail)
    refine wp_region_held_drew (S := fun V => V.cell? ⟨w.heap.size + 1, 2, none⟩ = some (.int .i64 e1)) (by kernel_rfl) c2 (fun hS0 => ?_)
    refine takeH (i := 0) 17 (.agg (oc zeroOb Sl0 Sl0 Sl0 Sl0 Sl0)) rfl rfl (by kernel_rfl) (by kernel_rfl) (by kernel_rfl) (fun _ _ _ h => h) (by rfl) ?_ (by assumption) ?_
    · intro V hV; (try dsimp only at hV); go_simp; try rfl
    try simp only [List.setIfInBounds_toArray, List.set_cons_zero, List.set_cons_succ]
    refine takeH (i := 1) 18 (.pointer (some ⟨w.heap.size + 1, 0, none⟩)) rfl rfl (by kernel_rfl) (by kernel_rfl) (by kernel_rfl) (fun _ _ _ h => h) (by rfl) ?_ (by assumption) ?_
    · intro V hV; (try dsimp only at hV); go_simp; try rfl
    try simp only [List.setIfInBounds_toArray, List.set_cons_zero, List.set_cons_succ]
    refine takeH (i := 2) 19 (.pointer (some ⟨w.heap.size + 1, 0, none⟩)) rfl rfl (by kernel_rfl) (by kernel_rfl) (by kernel_rfl) (fun _ _ _ h => h) (by rfl) ?_ (by assumption) ?_
    · intro V hV; (try dsimp only at hV); go_simp; try rfl
    try simp only [List.setIfInBounds_toArray, List.set_cons_zero, List.set_cons_succ]
    refine takeH (i := 3) 20 (.pointer (some ⟨w.heap.size + 1, 2, none⟩)) rfl rfl (by kernel_rfl) (by kernel_rfl) (by kernel_rfl) (fun _ _ _ h => h) (by rfl) ?_ (by assumption) ?_
    · intro V hV; (try dsimp only at hV); go_simp; try rfl
    try simp only [List.setIfInBounds_toArray, List.set_cons_zero, List.set_cons_succ]
    refine takeH (i := 4) 21 (.int .i64 e1) rfl rfl (by kernel_rfl) (by kernel_rfl) (by kernel_rfl) (fun _ _ _ h => h) (by rfl) ?_ (by assumption) ?_
    · intro V hV; (try dsimp only at hV); go_simp; try rfl
    try simp only [List.setIfInBounds_toArray, List.set_cons_zero, List.set_cons_succ]
    refine wpAnyH_ready (rs := [5]) (by kernel_rfl) (by simp) ?_
    refine AllReadyH.cons rfl (fun K hK => ?_) AllReadyH.nil
    rw [if_pos (by rfl)]
    refine wp_store_row 32 (.tmp 2) (.tmp 17) rfl w.heap.size (oc zeroOb Sl0 Sl0 Sl0 Sl0 Sl0) rfl rfl 32 _ P3.out size32 rfl (oc_one zeroOb Sl0 Sl0 Sl0 Sl0 Sl0) ?_
    obtain ⟨w4, hw4⟩ : ∃ w4, w4 = w3.drew.setRow w.heap.size (oc zeroOb Sl0 Sl0 Sl0 Sl0 Sl0) := ⟨_, rfl⟩
    have c4 : w4.cell? ⟨w.heap.size + 1, 2, none⟩ = some (.int .i64 e1) := by rw [hw4]; exact (cell_setRow_other _ _ _ _ (by simp)).trans c2
    have r4 : w4.heap[w.heap.size]? = some (.cells (oc zeroOb Sl0 Sl0 Sl0 Sl0 Sl0) 32 (0, 0)) := by rw [hw4]; exact setRow_heap _ _ _ _ _ _ P3.out
    have k4 : Below w.heap.size w w4 := by
      rw [hw4]
      exact K3.out.trans ⟨rfl, rfl, rfl, by rw [size_setRow]; exact Nat.le_refl _, fun j hj => setRow_other _ _ _ _ (by omega)⟩
    rw [← hw4]
    clear hw4
    have R4 := Lib.hid r4
    have K4 := Lib.hid k4
    refine hK.out _ _ c4 (fun hHeld => ?_)
    clear hK K r4 k4
    try simp only [Act.put, List.setIfInBounds_toArray, List.set_cons_zero, List.set_cons_succ]
    refine takeH (i := 6) 3 (.int .i64 0) rfl rfl (by kernel_rfl) (by kernel_rfl) (by kernel_rfl) (fun _ _ _ h => h) (by rfl) ?_ (by assumption) ?_
    · intro V hV; (try dsimp only at hV); go_simp; try rfl
    try simp only [List.setIfInBounds_toArray, List.set_cons_zero, List.set_cons_succ]
    refine takeH (i := 7) 4 (.int .i64 e1) rfl rfl (by kernel_rfl) (by kernel_rfl) (by kernel_rfl) (fun _ _ _ h => h) (by rfl) ?_ (by assumption) ?_
    · intro V hV; (try dsimp only at hV); go_simp; try rfl
    try simp only [List.setIfInBounds_toArray, List.set_cons_zero, List.set_cons_succ]
    refine wpAnyH_done (by kernel_rfl) ?_ _
    go_wp2
    refine bodyPost_ret (results_ctt rfl _ _ w.heap.size 32 _ (0, 0) _ rfl R4.out Try.underlying32 rfl size32) rfl ⟨Sl0, Sl0, Sl0, Sl0, Sl0, ?_, ?_, K4.out⟩
    · rw [HF2.out]; rfl
    · rw [HF2.out]; exact ObOwn.nil _ _ 0
end Go.Proofs.Ytolndeolehkjoaa
