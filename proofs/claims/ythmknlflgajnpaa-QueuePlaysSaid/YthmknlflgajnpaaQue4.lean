/- The walks of the queue: Clone, Get, Line, Busy. -/
import Derived.Test.YthmknlflgajnpaaQue3
import Derived.Laws.Rows
namespace Go.Proofs.Ythmknlflgajnpaa
open Go.RowKit
theorem one_rc : ∀ (l : List Ref), ∀ u ∈ l.flatMap rc, u.oneCell' = true := by
  intro l u hu
  rw [List.mem_flatMap] at hu
  obtain ⟨r, _, hr⟩ := hu
  exact rc_one r u hr
theorem row_len (l : List Ref) : (l.flatMap rc).length = l.length * 2 := by
  induction l with
  | nil => rfl
  | cons a l ih => simp [List.flatMap_cons, ih, rc]; omega
theorem app_row {P : Program} {ops : Array Oper} {rest : List Oper} {o : Oper} {a : Act} {Q : Exit → Act → World → Prop} {w : World} (hgd : o.guard = none) (s x : Operand) (t e : TypeId)
    (ho : o.op = .call { callee := .builtin .append, args := #[s, x], argTypes := #[t, t] })
    (base size bytes : Nat) (z : Value) (ht : P.underlying t = some (.slice e)) (hinfo : (P.info? e).map (fun i => (i.zero, i.size, i.bytes)) = some (some z, size, bytes)) (hzs : z.cells.size = size) (hsz : 0 < size)
    (v : Value) (n : Nat) (xs : List Value) (hs : a.eval s = v) (HO : w.ownsRow base e size v n xs)
    (ad : Addr) (m c : Nat) (news : List Value) (hx : a.eval x = .slice (some ad) m c) (hl : news.length = m * size) (hnews : ∀ j u, news[j]? = some u → w.cell? (ad.add j) = some u) (h1 : ∀ u ∈ news, u.oneCell' = true)
    (h63 : n + m ≤ maxLen) (hbytes : (n + m) * bytes ≤ 140737488355328) (hbase : base ≤ w.heap.size)
    (h : ∀ v' w', w'.ownsRow base e size v' (n + m) (xs ++ news) → w.grownBy w' v.ownBlock → (v' = .slice none 0 0 ↔ v = .slice none 0 0 ∧ m = 0) → wpList P ops Q rest (a.put o.dst v') w') : wpList P ops Q (o :: rest) a w := by
  obtain ⟨i0, hi, hzz⟩ := Option.map_eq_some_iff.1 hinfo
  simp only [Prod.mk.injEq] at hzz
  obtain ⟨hz0, hz1, hz2⟩ := hzz
  exact wpList_append_own w hgd s x t ho base e i0 z size bytes ht hi hz0 hz1 hz2 hzs hsz v n xs hs HO ad m c news hx hl hnews h1 h63 hbytes hbase h
theorem eql_nil (P : Program) (w : World) (t e : TypeId) (a : Option Addr) (l c : Nat) (h : P.underlying t = some (.slice e)) : (binOp .eql t (.slice a l c) (.slice none 0 0)).run P w = .ok (.bool a.isNone) w := by
  have hh : ∀ d : Nat, (Op.equalIn (d + 1) t (.slice a l c) (.slice none 0 0)).run P w = .ok a.isNone w := fun d => by
    cases a <;> simp [Op.equalIn, run_underlying h]
  simp only [binOp]
  simp [Op.equal, Op.maxDepth, hh 9999]
/-- v is a slice of these names, not nil -/
def Has (w : World) (v : Value) (l : List Ref) : Prop :=
  ∃ ad c, v = .slice (some ad) l.length c ∧ ∀ j u, (l.flatMap rc)[j]? = some u → w.cell? (ad.add j) = some u
set_option maxRecDepth 100000 in
set_option maxHeartbeats 1000000 in
theorem clone_some (l : List Ref) (v : Value) (w : World) (h : Has w v l) (hl : l.length ≤ 1000000) :
    Calls Try.prog 27 #[v] w fun e w' => ∃ g' c', e = .returned (.slice (some ⟨g', 0, none⟩) l.length c') ∧ w'.ownsRow w.heap.size 30 2 (.slice (some ⟨g', 0, none⟩) l.length c') l.length (l.flatMap rc) ∧ Below w.heap.size w w' := by
  obtain ⟨ad, c, rfl, hc⟩ := h
  have hnil : ∀ W : World, (binOp .eql 28 (.slice (some ad) l.length c) (.slice none 0 0)).run Try.prog W = .ok (.bool false) W := fun W => eql_nil Try.prog W 28 30 (some ad) l.length c Try.underlying28
  have hnews : ∀ j u, (l.flatMap rc)[j]? = some u → (w.alloc (.cells #[] 30)).cell? (ad.add j) = some u := fun j u hj => G.cell_below ((Below.refl _ _).alloc (Nat.le_refl _) _) (hc j u hj)
  have hown : (w.alloc (.cells #[] 30)).ownsRow w.heap.size 30 2 (.slice (some ⟨w.heap.size, 0, none⟩) 0 0) 0 [] := ⟨rfl, .inr ⟨w.heap.size, 0, #[], rfl, Nat.le_refl _, G.heap_new _ _, Nat.le_refl _, by decide, rfl, rfl⟩⟩
  have Hn := Lib.hid hnews
  have Ho := Lib.hid hown
  have Hl := Lib.hid hl
  clear hc hl hnews hown
  go_enter Try.func27, Try.ntmps27
  go_wp2_with (at_builtin; refine app_row rfl _ _ 28 30 rfl w.heap.size 2 24 _ Try.underlying28 info30 rfl (by decide) (.slice (some ⟨w.heap.size, 0, none⟩) 0 0) 0 [] rfl Ho.out ad l.length c (l.flatMap rc) rfl (row_len l) Hn.out (one_rc l) (by have := Hl.out; unfold maxLen; omega) (by have := Hl.out; omega) (by simp) ?_; intro v1 w1 hown1 hg1 hz1)
  have Ho1 := Lib.hid hown1
  have Hg1 := Lib.hid hg1
  have Hz1 := Lib.hid hz1
  clear hown1 hg1 hz1
  go_wp2
  go_ret
  have ho : w1.ownsRow w.heap.size 30 2 v1 l.length (l.flatMap rc) := by simpa using Ho1.out
  obtain ⟨g', c', rfl⟩ : ∃ g' c', v1 = .slice (some ⟨g', 0, none⟩) l.length c' := by
    rcases ho.2 with ⟨h1, _⟩ | ⟨g', c', _, h1, _⟩
    · have := ((Hz1.out).1 h1).1
      simp at this
    · exact ⟨g', c', h1⟩
  refine ⟨g', c', rfl, ho, ?_⟩
  · exact G.below_grown (B := w.heap.size) ((Below.refl _ _).alloc (Nat.le_refl _) _) (by simp) Ho.out Hg1.out
set_option maxRecDepth 100000 in
theorem clone_nil (w : World) : Calls Try.prog 27 #[.slice none 0 0] w fun e w' => e = .returned (.slice none 0 0) ∧ w' = w := by
  have hnil : ∀ W : World, (binOp .eql 28 (.slice none 0 0) (.slice none 0 0)).run Try.prog W = .ok (.bool true) W := fun W => eql_nil Try.prog W 28 30 none 0 0 Try.underlying28
  go_enter Try.func27, Try.ntmps27
  go_wp2
  go_ret
  exact ⟨rfl, rfl⟩
theorem Inv.cell3 {B qb : Nat} {s : St} {d : QD} {w : World} (h : Inv B qb s d w) : w.cell? ⟨qb, 3, none⟩ = some d.lv := by rw [h.cell]; rfl
theorem Inv.cell4 {B qb : Nat} {s : St} {d : QD} {w : World} (h : Inv B qb s d w) : w.cell? ⟨qb, 4, none⟩ = some (.map (some (d.m 0))) := by rw [h.cell]; rfl
theorem Inv.cell5 {B qb : Nat} {s : St} {d : QD} {w : World} (h : Inv B qb s d w) : w.cell? ⟨qb, 5, none⟩ = some (.map (some (d.m 1))) := by rw [h.cell]; rfl
theorem owns_base_le {w : World} {B B' e size n : Nat} {v : Value} {xs : List Value} (h : w.ownsRow B' e size v n xs) (hb : B ≤ B') : w.ownsRow B e size v n xs := by
  obtain ⟨hl, h | ⟨g, cap, cur, rfl, h1, h2⟩⟩ := h
  · exact ⟨hl, .inl h⟩
  · exact ⟨hl, .inr ⟨g, cap, cur, rfl, Nat.le_trans hb h1, h2⟩⟩
/-- another line is stored -/
theorem Inv.setline {B qb : Nat} {s : St} {d : QD} {w : World} (h : Inv B qb s d w) (l : List Ref) (v : Value) (hv : w.ownsRow B 30 2 v l.length (l.flatMap rc)) :
    Inv B qb { s with line := l } { d with lv := v } (w.setCell ⟨qb, 3, none⟩ v) := by
  have kp : ∀ j, j ≠ qb → (w.setCell ⟨qb, 3, none⟩ v).heap[j]? = w.heap[j]? := fun j hj => Below.heap_setCell _ _ _ _ hj
  refine ⟨?_, h.hB, ?_, ?_, fun i => (h.maps i).of_block (kp _ ?_), h.mB, h.apart⟩
  · rw [heap_setCell_same _ _ _ _ _ _ h.cells]
    simp [qcells]
  · refine owns_kept hv (fun j hj => kp j ?_)
    obtain ⟨c, hc⟩ := owns_block hv hj
    exact cells_not hc h.cells (by decide)
  · refine owns_kept h.pile (fun j hj => kp j ?_)
    obtain ⟨c, hc⟩ := owns_block h.pile hj
    exact cells_not hc h.cells (by decide)
  · exact (map_not_cells h.cells (h.maps i)).symm
theorem fr_set {F : Nat → Prop} (w : World) (r i : Nat) (v : Value) (h : F r) : Fr F w (w.setCell ⟨r, i, none⟩ v) :=
  ⟨rfl, rfl, rfl, by simp [World.setCell], fun j _ hj => Below.heap_setCell _ _ _ _ (fun e => hj (e ▸ h))⟩
theorem line_shape {B qb : Nat} {s : St} {d : QD} {w : World} (h : Inv B qb s d w) : ∃ A c, d.lv = .slice A s.line.length c := by
  obtain ⟨_, ⟨h1, h2⟩ | ⟨g, cap, cur, h1, _⟩⟩ := h.line
  · exact ⟨none, 0, by rw [h1, h2]⟩
  · exact ⟨_, _, h1⟩
theorem line_shape2 {B qb : Nat} {s : St} {d : QD} {w : World} (h : Inv B qb s d w) {r : Ref} {rest : List Ref} (hl : s.line = r :: rest) :
    ∃ g cap, d.lv = .slice (some ⟨g, 0, none⟩) (rest.length + 1) cap ∧ rest.length + 1 ≤ cap ∧ cap ≤ maxLen ∧ ∀ j u, ((r :: rest).flatMap rc)[j]? = some u → w.cell? ⟨g, j, none⟩ = some u := by
  have hx := G.HasRow.of_owns h.line
  rw [hl] at hx
  obtain ⟨_, ⟨h1, h2⟩ | ⟨g, cap, cur, h1, h2, h3, h4, h5, h6, h7⟩⟩ := h.line
  · rw [hl] at h2; simp at h2
  · rw [hl] at h1 h4 h7
    refine ⟨g, cap, h1, h4, h5, fun j u hj => ?_⟩
    obtain ⟨_, A, c, hv, _, _, hc⟩ := hx
    rw [h1] at hv; cases hv
    obtain ⟨ad, ha, hcell⟩ := hc j u hj
    cases ha
    rw [G.add_plain, Nat.zero_add] at hcell; exact hcell
theorem results_ct {P : Program} {fn : Func} {p u : Tmp} {ty : TypeId} (h : fn.results = #[.cell p ty, .tmp u]) (tmps : Array Value) (w : World) (g : Nat) (t : TypeId) (cs : Array Value) (fr : Nat × Nat) (d : TypeDesc)
    (hp : tmps.getD p undef = .pointer (some ⟨g, 0, none⟩)) (hg : w.heap[g]? = some (.cells cs t fr))
    (hu : P.underlying ty = some d) (hd : (match d with | .struct _ | .array _ _ => true | _ => false) = true) (hi : (P.info? ty).map (·.size) = some cs.size) :
    (results fn tmps).run P w = .ok (.tuple #[.agg cs, tmps.getD u undef]) w := by
  have hp' : tmps[p]?.getD undef = .pointer (some ⟨g, 0, none⟩) := by simpa using hp
  simp [results, h, hp', asAddr, run_loadVar_row w g t ty cs fr d hg hu hd hi]
theorem size30 : (Try.prog.info? 30).map (·.size) = some 2 := by kernel_rfl
def getS (s : St) : St := match s.line with
  | [] => s
  | r :: rest => { s with line := rest, mp := fun j => if j = 1 then M.put (s.mp 1) r 1 else if j = 0 then M.del (s.mp 0) r else s.mp j }
def getR (s : St) : Value × Bool := match s.line with
  | [] => (.agg #[.int .i64 0, .string ⟨#[]⟩], false)
  | r :: _ => (rv r, true)
set_option maxRecDepth 100000 in
set_option maxHeartbeats 2000000 in
theorem get_empty (B qb : Nat) (s : St) (d : QD) (w : World) (h : Inv B qb s d w) (hl : s.line = []) :
    Calls Try.prog 11 #[.pointer (some ⟨qb, 0, none⟩)] w fun e w' => e = .returned (.tuple #[.agg #[.int .i64 0, .string ⟨#[]⟩], .bool false]) ∧ Step B qb d w s w' := by
  obtain ⟨A, c, hlv⟩ := line_shape h
  rw [hl] at hlv
  have c3 := h.cell 3
  have hlt := h.lt
  simp only [qcells, List.getElem?_toArray, List.getElem?_cons_succ, List.getElem?_cons_zero] at c3
  rw [hlv] at c3
  have H := Lib.hid h
  have Hlv := Lib.hid hlv
  clear h hl hlv
  go_enter Try.func11, Try.ntmps11
  go_wp2
  refine bodyPost_ret (results_ct rfl _ _ w.heap.size 30 #[.int .i64 0, .string ⟨#[]⟩] (0, 0) _ rfl (G.heap_new _ _) Try.underlying30 rfl size30) rfl ⟨rfl, ?_⟩
  have hb : Below w.heap.size w (w.alloc (.cells #[.int .i64 0, .string ⟨#[]⟩] 30)) := (Below.refl _ _).alloc (Nat.le_refl _) _
  exact Step.of (H.out.below hb) (Fr.of_below hb)
set_option maxRecDepth 100000 in
set_option maxHeartbeats 4000000 in
theorem get_full (B qb : Nat) (s : St) (d : QD) (w : World) (h : Inv B qb s d w) (r : Ref) (rest : List Ref) (hl : s.line = r :: rest) (h6 : rest.length ≤ 1000000) :
    Calls Try.prog 11 #[.pointer (some ⟨qb, 0, none⟩)] w fun e w' => e = .returned (.tuple #[rv r, .bool true]) ∧ Step B qb d w (getS s) w' := by
  obtain ⟨k, nm⟩ := r
  obtain ⟨g, cap, hlv, hc1, hc2, hcell⟩ := line_shape2 h hl
  have c3 := h.cell 3
  have hlt := h.lt
  simp only [qcells, List.getElem?_toArray, List.getElem?_cons_succ, List.getElem?_cons_zero] at c3
  rw [hlv] at c3
  have g0 : w.cell? ⟨g, 0, none⟩ = some (.int .i64 k) := hcell 0 _ rfl
  have g1 : w.cell? ⟨g, 1, none⟩ = some (.string nm) := hcell 1 _ rfl
  have hgl : g < w.heap.size := World.block_lt_of_cell? w _ g0
  have hgq : g ≠ qb := by
    obtain ⟨c, hc⟩ := owns_block h.line (show d.lv.ownBlock = some g by rw [hlv]; rfl)
    exact cells_not hc h.cells (by decide)
  obtain ⟨ad, hsl, had⟩ : ∃ ad, (∀ W : World, (Instr.slice 28 (.slice (some ⟨g, 0, none⟩) (rest.length + 1) cap) (some (.int .i64 1)) none none).run Try.prog W = .ok (.slice (some ad) rest.length (cap - 1)) W) ∧ (rest ≠ [] → ad = ⟨g, 2, none⟩) := by
    refine ⟨if cap = 1 then ⟨g, 0, none⟩ else ⟨g, 2, none⟩, fun W => ?_, fun hr => ?_⟩
    · by_cases hcp : cap = 1
      · subst hcp
        have : rest.length = 0 := by omega
        simp [Instr.slice, Instr.sliceBounds, Instr.sliceBound, asIntOf, go_sem, this]
      · simp [Instr.slice, Instr.sliceBounds, Instr.sliceBound, asIntOf, go_sem, hcp]
        intro hh; omega
    · have : 0 < rest.length := List.length_pos_iff.2 hr
      rw [if_neg (by omega)]
  have hHas : ∀ W, Below w.heap.size w W → Has W (.slice (some ad) rest.length (cap - 1)) rest := fun W hb => by
    refine ⟨ad, cap - 1, rfl, fun j u hj => ?_⟩
    have hr : rest ≠ [] := by rintro rfl; simp at hj
    rw [had hr, G.add_plain]
    exact G.cell_below hb (hcell (2 + j) u (by rw [List.flatMap_cons, List.getElem?_append_right (by simp [rc])]; simpa [rc] using hj))
  obtain ⟨W, hW⟩ : ∃ W, W = (w.alloc (.cells #[.int .i64 0, .string ⟨#[]⟩] 30)).alloc (.cells #[.int .i64 k, .string nm] 30) := ⟨_, rfl⟩
  have hbW : Below w.heap.size w W := by rw [hW]; exact ((Below.refl _ _).alloc (Nat.le_refl _) _).alloc (by simp) _
  have hW0 : W.heap[w.heap.size]? = some (.cells #[.int .i64 0, .string ⟨#[]⟩] 30 (0, 0)) := by
    rw [hW]; rw [show ∀ (V : World) (o : Obj) (j : Nat), j < V.heap.size → (V.alloc o).heap[j]? = V.heap[j]? from fun V o j hj => ((Below.refl V.heap.size V).alloc (Nat.le_refl _) o).block j hj]
    · exact G.heap_new _ _
    · simp
  have hW1 : W.heap[w.heap.size + 1]? = some (.cells #[.int .i64 k, .string nm] 30 (0, 0)) := by
    rw [hW]; have := G.heap_new (w.alloc (.cells #[.int .i64 0, .string ⟨#[]⟩] 30)) (.cells #[.int .i64 k, .string nm] 30)
    simpa using this
  have hWc := hHas W hbW
  have hIW := h.below hbW
  rw [hW] at hWc
  have H := Lib.hid h
  have HL := Lib.hid hl
  have HV := Lib.hid hlv
  have HG := Lib.hid hgq
  have H6 := Lib.hid h6
  have HB := Lib.hid hbW
  have H0 := Lib.hid hW0
  have H1 := Lib.hid hW1
  have HC := Lib.hid hWc
  have HI := Lib.hid hIW
  have HW := Lib.hid hW
  clear h hl hlv hc1 hc2 hcell had hHas hbW hW0 hW1 hWc hIW hW h6
  have hgq : g ≠ qb := HG.out
  go_enter Try.func11, Try.ntmps11
  go_wp2_with (go_at_call 27; refine (clone_some rest _ _ HC.out H6.out).mono ?_; rintro e w1 ⟨g1', c1', rfl, hown1, hb1⟩; rw [← HW.out] at hown1 hb1; have hI1 := HI.out.below hb1; have x3 := hI1.cell3; have xf := hI1.free 3; have xl := hI1.lt; have HI1 := Lib.hid hI1; have Ho1 := Lib.hid hown1; have Hb1 := Lib.hid hb1; clear hI1 hown1 hb1)
  obtain ⟨w2, hw2⟩ : ∃ w2, w2 = w1.setCell ⟨qb, 3, none⟩ (.slice (some ⟨g1', 0, none⟩) rest.length c1') := ⟨_, rfl⟩
  rw [← hw2]
  have hI2 := HI1.out.setline rest _ (owns_base_le Ho1.out (Nat.le_trans HI.out.hB (Nat.le_of_lt HI.out.lt)))
  rw [← hw2] at hI2
  obtain ⟨d2, hd2⟩ : ∃ d2, d2 = { d with lv := Value.slice (some ⟨g1', 0, none⟩) rest.length c1' } := ⟨_, rfl⟩
  rw [← hd2] at hI2
  have hF2 : Fr (Foot qb d) w w2 := by
    rw [hw2]
    exact ((Fr.of_below HB.out).trans (F := Foot qb d) (Fr.of_below (F := Foot qb d) Hb1.out) (fun _ hj => .inl hj)).trans (fr_set (F := Foot qb d) w1 qb 3 _ (.inl rfl)) (fun _ hj => .inl hj)
  have hft : ∀ j, Foot qb d2 j → Foot qb d j ∨ w.heap.size ≤ j := by
    intro j hj
    rw [hd2] at hj
    rcases hj with rfl | ⟨i, rfl⟩ | hj | hj
    · exact .inl (.inl rfl)
    · exact .inl (.inr (.inl ⟨i, rfl⟩))
    · exact .inr (Nat.le_trans HB.out.size (G.owns_base Ho1.out j hj))
    · exact .inl (.inr (.inr (.inr hj)))
  have hne : ∀ j, Foot qb d2 j → j ≠ w.heap.size := by
    intro j hj
    rw [hd2] at hj
    rcases hj with rfl | ⟨i, rfl⟩ | hj | hj
    · omega
    · have := H.out.foot_lt (.inr (.inl ⟨i, rfl⟩)); show d.m i ≠ _; omega
    · have h1 := G.owns_base Ho1.out j hj
      have h2 := (Array.getElem?_eq_some_iff.1 H0.out).1
      omega
    · have := H.out.foot_lt (.inr (.inr (.inr hj))); omega
  have HNE := Lib.hid hne
  clear hne
  have hz : ∀ j o, W.heap[j]? = some o → j ≠ qb → w2.heap[j]? = some o := fun j o hj hne => by
    rw [hw2, Below.heap_setCell _ _ _ _ hne, Hb1.out.block j (Array.getElem?_eq_some_iff.1 hj).1]; exact hj
  have z0 := hz _ _ H0.out (by have := hlt; omega)
  have z1 := hz _ _ H1.out (by have := hlt; omega)
  have y4 := hI2.cell4
  have l2 := hI2.lt
  have e41 : w2.cell? ⟨w.heap.size + 1, 0, none⟩ = some (.int .i64 k) := by simp [World.cell?, z1]
  have e42 : w2.cell? ⟨w.heap.size + 1, 1, none⟩ = some (.string nm) := by simp [World.cell?, z1]
  obtain ⟨o3, hm3, hI3⟩ := mdel hI2 0 0 k nm
  have hm3' := hm3 1
  have M3 := Lib.hid hm3'
  have HI3 := Lib.hid (hI3 1)
  have HF2 := Lib.hid hF2
  have HFT := Lib.hid hft
  have HD2 := Lib.hid hd2
  have Z0 := Lib.hid z0
  have Z1 := Lib.hid z1
  have HI2 := Lib.hid hI2
  clear hm3 hm3' hI3 hF2 hft hd2 z0 z1 hI2 hw2 hz x3 xf xl c3 g0 g1
  go_region_law (refine step_delete_run rfl (.tmp 34) (.tmp 35) 56 30 rfl rfl rfl M3.out ?_)
  all_goals
    go_wp2
    generalize hw3 : M.upd _ (d2.m 0) o3 = w3
    have hw3' : M.upd (w2.drewN 1) (d2.m 0) o3 = w3 := hw3
    clear hw3
    have hI3 := HI3.out
    rw [hw3'] at hI3
    have mlt : ∀ i, d2.m i < w.heap.size := fun i => by rw [HD2.out]; exact H.out.foot_lt (.inr (.inl ⟨i, rfl⟩))
    have y0 : w3.heap[w.heap.size]? = some (.cells #[.int .i64 0, .string ⟨#[]⟩] 30 (0, 0)) := by
      rw [← hw3', M.upd_other _ _ _ _ (by have := mlt 0; omega)]; exact Z0.out
    have y1 : w3.heap[w.heap.size + 1]? = some (.cells #[.int .i64 k, .string nm] 30 (0, 0)) := by
      rw [← hw3', M.upd_other _ _ _ _ (by have := mlt 0; omega)]; exact Z1.out
    have hF3 : Fr (Foot qb d) w w3 := by
      rw [← hw3']; exact HF2.out.trans (F := Foot qb d) (fr_upd (F := Foot qb d) w2 1 (d2.m 0) o3 (by rw [HD2.out]; exact .inr (.inl ⟨0, rfl⟩))) (fun _ hj => .inl hj)
    have y5 := hI3.cell5
    have l3 := hI3.lt
    have e51 : w3.cell? ⟨w.heap.size + 1, 0, none⟩ = some (.int .i64 k) := by simp [World.cell?, y1]
    have e52 : w3.cell? ⟨w.heap.size + 1, 1, none⟩ = some (.string nm) := by simp [World.cell?, y1]
    obtain ⟨o4, hm4, hI4⟩ := mput hI3 1 k nm 1
    have M4 : (Instr.mapUpdate 56 (.map (some (d2.m 1))) (.agg #[.int .i64 k, .string nm]) (.int .i64 1)).run Try.prog w3.drew = .ok () (M.upd w3.drew (d2.m 1) o4) := hm4 1
    have HI4 := Lib.hid (hI4 1)
    have Mlt := Lib.hid mlt
    have Y0 := Lib.hid y0
    have Y1 := Lib.hid y1
    have HF3 := Lib.hid hF3
    clear hI3 hm4 hI4 y0 y1 hF3 hw3' HI3 mlt y4 l2 e41 e42
    go_region
    all_goals
      generalize hw4 : M.upd w3.drew (d2.m 1) o4 = w4
      have hI4 := HI4.out
      rw [show M.upd (w3.drewN 1) (d2.m 1) o4 = w4 from hw4] at hI4
      have y0 : w4.heap[w.heap.size]? = some (.cells #[.int .i64 0, .string ⟨#[]⟩] 30 (0, 0)) := by
        rw [← hw4, M.upd_other _ _ _ _ (by have := Mlt.out 1; omega)]; exact Y0.out
      have y1 : w4.heap[w.heap.size + 1]? = some (.cells #[.int .i64 k, .string nm] 30 (0, 0)) := by
        rw [← hw4, M.upd_other _ _ _ _ (by have := Mlt.out 1; omega)]; exact Y1.out
      have hF4 : Fr (Foot qb d) w w4 := by
        rw [← hw4]; exact HF3.out.trans (F := Foot qb d) (fr_upd (F := Foot qb d) w3 1 (d2.m 1) o4 (by rw [HD2.out]; exact .inr (.inl ⟨1, rfl⟩))) (fun _ hj => .inl hj)
      have f41 : w4.cell? ⟨w.heap.size + 1, 0, none⟩ = some (.int .i64 k) := by simp [World.cell?, y1]
      have f42 : w4.cell? ⟨w.heap.size + 1, 1, none⟩ = some (.string nm) := by simp [World.cell?, y1]
      have f01 : w4.cell? ⟨w.heap.size, 0, none⟩ = some (.int .i64 0) := by simp [World.cell?, y0]
      have f02 : w4.cell? ⟨w.heap.size, 1, none⟩ = some (.string ⟨#[]⟩) := by simp [World.cell?, y0]
      have f03 : ∀ i, w4.frozen? ⟨w.heap.size, i, none⟩ = false := fun i => by simp [World.frozen?, y0]
      have f04 := f03 0
      have f05 := f03 1
      have HI5 := Lib.hid hI4
      have Y2 := Lib.hid y0
      have HF4 := Lib.hid hF4
      clear hI4 HI4 y0 y1 hF4 hw4 f03
      go_wp2
      refine bodyPost_ret (results_ct rfl _ _ w.heap.size 30 #[.int .i64 k, .string nm] (0, 0) _ rfl ?_ Try.underlying30 rfl size30) rfl ⟨rfl, ?_⟩
      · rw [heap_setCell_same _ _ _ _ _ _ (heap_setCell_same _ _ _ _ _ _ Y2.out)]; rfl
      · have hgs : getS s = { s with line := rest, mp := fun j => if j = 1 then M.put (s.mp 1) ⟨k, nm⟩ 1 else if j = 0 then M.del (s.mp 0) ⟨k, nm⟩ else s.mp j } := by
          simp only [getS, HL.out]
        rw [hgs]
        refine ⟨d2, HI5.out.keep fun j hj => ?_, HFT.out, ?_⟩
        · rw [Below.heap_setCell _ _ _ _ (HNE.out j hj), Below.heap_setCell _ _ _ _ (HNE.out j hj)]
        · refine HF4.out.trans (F := Foot qb d) (G := fun j => j = w.heap.size) ((fr_set (F := fun j => j = w.heap.size) w4 w.heap.size 0 _ rfl).trans (F := fun j => j = w.heap.size) (fr_set (F := fun j => j = w.heap.size) _ w.heap.size 1 _ rfl) (fun _ hj => .inl hj)) (fun j hj => .inr (by omega))
theorem get_any (B qb : Nat) (s : St) (d : QD) (w : World) (h : Inv B qb s d w) (hl : s.line.length ≤ 1000000) :
    Calls Try.prog 11 #[.pointer (some ⟨qb, 0, none⟩)] w fun e w' => e = .returned (.tuple #[(getR s).1, .bool (getR s).2]) ∧ Step B qb d w (getS s) w' := by
  rcases hs : s.line with _ | ⟨r, rest⟩
  · refine (get_empty B qb s d w h hs).mono ?_
    rintro e w1 ⟨rfl, h1⟩
    have h2 : getS s = s := by simp only [getS, hs]
    have h3 : getR s = (.agg #[.int .i64 0, .string ⟨#[]⟩], false) := by simp only [getR, hs]
    rw [h2, h3]; exact ⟨rfl, h1⟩
  · refine (get_full B qb s d w h r rest hs (by rw [hs] at hl; simp at hl; omega)).mono ?_
    rintro e w1 ⟨rfl, h1⟩
    have h3 : getR s = (rv r, true) := by simp only [getR, hs]
    rw [h3]; exact ⟨rfl, h1⟩
set_option maxRecDepth 100000 in
theorem line_any (B qb : Nat) (s : St) (d : QD) (w : World) (h : Inv B qb s d w) (hl : s.line.length ≤ 1000000) :
    Calls Try.prog 15 #[.pointer (some ⟨qb, 0, none⟩)] w fun e w' => ∃ v', e = .returned v' ∧ w'.ownsRow w.heap.size 30 2 v' s.line.length (s.line.flatMap rc) ∧ Below w.heap.size w w' := by
  have c3 := h.cell3
  have hown := h.line
  obtain ⟨hlen, ⟨h1, h2⟩ | ⟨g, cap, cur, h1, h2, h3, h4, h5, h6, h7⟩⟩ := h.line
  · rw [h1] at c3
    have hz : s.line = [] := List.eq_nil_of_length_eq_zero h2
    have Hz := Lib.hid hz
    clear h hl hown hlen h1 h2 hz
    go_enter Try.func15, Try.ntmps15
    go_wp2_with (go_at_call 27; refine (clone_nil _).mono ?_; rintro e w1 ⟨rfl, rfl⟩)
    go_ret
    refine ⟨_, rfl, ?_, Below.refl _ _⟩
    rw [Hz.out]; exact G.owns_nil _ _ _ _
  · have hx := G.HasRow.of_owns hown
    rw [h1] at c3 hx
    have hh : Has w (.slice (some ⟨g, 0, none⟩) s.line.length cap) s.line := by
      obtain ⟨_, A, c, hv, _, _, hc⟩ := hx
      cases hv
      refine ⟨_, cap, rfl, fun j u hj => ?_⟩
      obtain ⟨ad, ha, hcell⟩ := hc j u hj
      cases ha; exact hcell
    have Hh := Lib.hid hh
    have Hl := Lib.hid hl
    clear h hl hown hlen h1 h2 h3 h4 h5 h6 h7 hx hh
    go_enter Try.func15, Try.ntmps15
    go_wp2_with (go_at_call 27; refine (clone_some s.line _ _ Hh.out Hl.out).mono ?_; rintro e w1 ⟨g1, c1, rfl, hown1, hb1⟩)
    go_ret
    exact ⟨_, rfl, by assumption, by assumption⟩
set_option maxRecDepth 100000 in
theorem busy_any (B qb : Nat) (s : St) (d : QD) (r : Ref) (w : World) (h : Inv B qb s d w) :
    Calls Try.prog 12 #[.pointer (some ⟨qb, 0, none⟩), rv r] w fun e w' => e = .returned (.bool (decide (0 < num (s.mp 1) r))) ∧ Below w.heap.size w w' := by
  obtain ⟨k, nm⟩ := r
  have hbW : Below w.heap.size w (w.alloc (.cells #[.int .i64 k, .string nm] 30)) := (Below.refl _ _).alloc (Nat.le_refl _) _
  have hI := h.below hbW
  have c5 := hI.cell5
  have lk := look (hI.maps 1) k nm
  have hlt := h.lt
  have Hb := Lib.hid hbW
  clear h hI hbW
  unfold rv
  by_cases hm : 0 < num (s.mp 1) ⟨k, nm⟩
  · have hm' : decide (0 < num (s.mp 1) ⟨k, nm⟩) = true := by simpa using hm
    have Hm := Lib.hid hm'
    clear hm
    go_enter Try.func12, Try.ntmps12
    go_wp2
    go_quiet (fail)
    go_wp2
    go_ret
    exact ⟨by rw [Hm.out]; rfl, G.bdrewN Hb.out _⟩
  · have hm' : decide (0 < num (s.mp 1) ⟨k, nm⟩) = false := decide_eq_false hm
    have Hm := Lib.hid hm'
    clear hm
    go_enter Try.func12, Try.ntmps12
    go_wp2
    go_quiet (fail)
    go_wp2
    go_ret
    exact ⟨by rw [Hm.out]; rfl, G.bdrewN Hb.out _⟩
end Go.Proofs.Ythmknlflgajnpaa
