/- Objects of bytes, one behind the other: UnpackAll. -/
import Derived.Test.YtolndeolehkjoaaPa1
import Derived.Test.YtolndeolehkjoaaRd8
import Derived.Great.BuildSlice
namespace Go.Proofs.Ytolndeolehkjoaa
set_option linter.unusedVariables false
set_option linter.unusedSimpArgs false
open Go.RowKit CodP
theorem info32 : (Try.prog.info? 32).map (fun i => (i.zero, i.size, i.bytes)) = some (some (.agg #[.int .i64 0, .string ByteArray.empty, .int .i64 0, .int .i64 0, .bool false, .slice none 0 0, .slice none 0 0, .slice none 0 0, .string ByteArray.empty, .int .i64 0, .int .i64 0, .slice none 0 0, .slice none 0 0, .string ByteArray.empty, .string ByteArray.empty, .int .i64 0, .string ByteArray.empty, .string ByteArray.empty, .string ByteArray.empty]), 19, 288) := by kernel_rfl
/-- a row of objects that the call owns -/
structure OL (w : World) (B : Nat) (v : Value) (acc : List OE) : Prop where
  own : w.ownsRow B 32 19 v acc.length (acc.flatMap ec)
  obs : ∀ e ∈ acc, ObOwn w B e.o e.f e.l e.c e.p e.i
theorem owns_apart {w : World} {base e size n base' e' size' n' : Nat} {v v' : Value} {xs xs' : List Value} (h : w.ownsRow base e size v n xs) (k : w.ownsRow base' e' size' v' n' xs') (hne : e ≠ e') : v.ownBlock = none ∨ v.ownBlock ≠ v'.ownBlock := by
  cases hb : v.ownBlock with
  | none => exact .inl rfl
  | some g =>
    refine .inr fun h2 => hne ?_
    obtain ⟨c1, h3⟩ := owns_type h g hb
    obtain ⟨c2, h4⟩ := owns_type k g h2.symm
    rw [h3] at h4
    injection h4 with h4
    injection h4
theorem ob_below {w w1 : World} {B : Nat} {o : Ob} {f l c p i : Sl} (h : ObOwn w B o f l c p i) (hb : Below w.heap.size w w1) : ObOwn w1 B o f l c p i :=
  ⟨G.owns_below h.fr hb, G.owns_below h.lr hb, G.owns_below h.cr hb, G.owns_below h.pr hb, G.owns_below h.ir hb⟩
theorem ob_grown {w w1 : World} {B B' n : Nat} {o : Ob} {f l c p i : Sl} {v : Value} {xs : List Value} (h : ObOwn w B o f l c p i) (hv : w.ownsRow B' 32 19 v n xs) (hg : w.grownBy w1 v.ownBlock) : ObOwn w1 B o f l c p i :=
  ⟨h.fr.kept hg (owns_apart h.fr hv (by decide)), h.lr.kept hg (owns_apart h.lr hv (by decide)), h.cr.kept hg (owns_apart h.cr hv (by decide)), h.pr.kept hg (owns_apart h.pr hv (by decide)), h.ir.kept hg (owns_apart h.ir hv (by decide))⟩
theorem OL.below {w w1 : World} {B : Nat} {v : Value} {acc : List OE} (h : OL w B v acc) (hb : Below w.heap.size w w1) : OL w1 B v acc :=
  ⟨G.owns_below h.own hb, fun e he => ob_below (h.obs e he) hb⟩
theorem OL.app {w w1 : World} {B : Nat} {v v1 : Value} {acc : List OE} {e : OE} (h : OL w B v acc) (he : ObOwn w B e.o e.f e.l e.c e.p e.i) (hown : w1.ownsRow B 32 19 v1 (acc.length + 1) (acc.flatMap ec ++ ec e)) (hg : w.grownBy w1 v.ownBlock) : OL w1 B v1 (acc ++ [e]) :=
  ⟨by rw [List.length_append, List.flatMap_append, List.flatMap_cons, List.flatMap_nil, List.append_nil]; exact hown, fun x hx => by
    rcases List.mem_append.1 hx with hx | hx
    · exact ob_grown (h.obs x hx) h.own hg
    · rw [List.mem_singleton.1 hx]; exact ob_grown he h.own hg⟩
theorem OL.slice {w : World} {B : Nat} {v : Value} {acc : List OE} (h : OL w B v acc) : ∃ A c, v = .slice A acc.length c := by
  rcases h.own.2 with ⟨hv, hz⟩ | ⟨g, cap, cur, hv, _⟩
  · exact ⟨none, 0, by rw [hv, hz]⟩
  · exact ⟨_, _, hv⟩
theorem OL.read {w : World} {B : Nat} {A : Option Addr} {c : Nat} {acc : List OE} (h : OL w B (.slice A acc.length c) acc) : ObsR w A acc := by
  refine ⟨?_, fun e he => RowsR.of_owns (h.obs e he)⟩
  obtain ⟨_, A', c', hv, _, _, hc⟩ := G.HasRow.of_owns h.own
  injection hv with h1 _ _
  subst h1
  exact hc
theorem OL.row {w : World} {B r : Nat} {v : Value} {acc : List OE} {cs : Array Value} (h : OL w B v acc) (hr : r < B) : OL (w.setRow r cs) B v acc :=
  ⟨owns_grown h.own (grown_row _ _ _) hr, fun e he => (h.obs e he).row hr⟩
def strLen (v : Value) : Nat := match v with | .string b => b.size | _ => 0
theorem ec_one (e : OE) : ∀ u ∈ ec e, u.oneCell' = true := by
  intro u hu
  have := oc_one e.o e.f e.l e.c e.p e.i
  rw [Array.all_eq_true'] at this
  exact this u (by simpa [ec] using hu)
theorem unp_len (o : Ob) (h : CodP.shape o = true) : 1 ≤ (bytesS o).size := bytesS_pos o
theorem fill_one (e : OE) : Instr.fill (fun i => some (i * 19, 19)) ((Array.range (1 * 19)).map ((Value.agg #[.int .i64 0, .string ByteArray.empty, .int .i64 0, .int .i64 0, .bool false, .slice none 0 0, .slice none 0 0, .slice none 0 0, .string ByteArray.empty, .int .i64 0, .int .i64 0, .slice none 0 0, .slice none 0 0, .string ByteArray.empty, .string ByteArray.empty, .int .i64 0, .string ByteArray.empty, .string ByteArray.empty, .string ByteArray.empty]).cells[· % (Value.agg #[.int .i64 0, .string ByteArray.empty, .int .i64 0, .int .i64 0, .bool false, .slice none 0 0, .slice none 0 0, .slice none 0 0, .string ByteArray.empty, .int .i64 0, .int .i64 0, .slice none 0 0, .slice none 0 0, .string ByteArray.empty, .string ByteArray.empty, .int .i64 0, .string ByteArray.empty, .string ByteArray.empty, .string ByteArray.empty]).cells.size]!)) [(0, .agg (oc e.o e.f e.l e.c e.p e.i))] = some (ec e).toArray := by kernel_rfl
theorem build_obj {ops : Array Oper} {rest : List Oper} {op : Oper} {a : Act} {w : World} {Q : Exit → Act → World → Prop} (hgd : op.guard = none) (x : Operand) (ho : op.op = .buildSlice 45 1 #[(0, x)]) (e : OE)
    (hx : a.eval x = .agg (oc e.o e.f e.l e.c e.p e.i)) (h : wpList Try.prog ops Q rest (a.put op.dst (.slice (some ⟨w.heap.size, 0, none⟩) 1 1)) (w.alloc (.cells (ec e).toArray 32))) : wpList Try.prog ops Q (op :: rest) a w := by
  obtain ⟨ie, hie, hzz⟩ := Option.map_eq_some_iff.1 info32
  simp only [Prod.mk.injEq] at hzz
  obtain ⟨hz0, hz1, hz2⟩ := hzz
  refine wpList_buildSlice hgd 45 32 1 _ ho _ ie _ Try.underlying45 hie hz0 (by rw [hz1]; decide) (by rw [hz1]; decide) ?_ h
  rw [hz1]
  have e1 : ((#[((0 : Nat), x)] : Array (Nat × Operand)).map fun (i, y) => (i, a.eval y)).toList = [(0, .agg (oc e.o e.f e.l e.c e.p e.i))] := by simp [hx]
  rw [e1]
  exact fill_one e
set_option maxRecDepth 100000 in
set_option maxHeartbeats 8000000 in
theorem unpackall_own (s : ByteArray) (hs : s.size ≤ 500000) (w : World) :
    Calls Try.prog 23 #[.string s] w fun x w' => ∃ (L : List OE) (A : Option Addr) (c : Nat) (e : Int), x = .returned (.tuple #[.slice A L.length c, .int .i64 e]) ∧ ((allS s = none ∧ e = 4 ∧ L = []) ∨ (allS s = some (L.map (·.o)) ∧ e = 0)) ∧ L.length ≤ s.size ∧ OL w' w.heap.size (.slice A L.length c) L ∧ Below w.heap.size w w' := by
  go_enter Try.func23, Try.ntmps23
  go_wp2
  go_loopw [0, 4] (fun sv v wr => ∃ (sb : ByteArray) (acc : List OE) (A : Option Addr) (c : Nat), sv = .string sb ∧ v = .slice A acc.length c ∧ sb.size + acc.length ≤ s.size ∧ Hid (allS s = (allS sb).map (fun l => acc.map (·.o) ++ l) ∧ OL wr w.heap.size (.slice A acc.length c) acc ∧ Below w.heap.size w wr)) (fun sv _ _ => strLen sv)
  case atStart => exact ⟨s, [], none, 0, rfl, rfl, by simp, Lib.hid ⟨by cases allS s <;> simp, ⟨G.owns_nil _ _ _ _, by simp⟩, Below.refl _ _⟩⟩
  case round =>
    obtain ⟨sb, acc, A, c, rfl, rfl, hsb, H⟩ := hrel
    by_cases h0 : sb.size = 0
    · have q0 : sb.toList.isEmpty = true := by rw [size0.1 h0]; decide +kernel
      have ha : allS s = some (acc.map (·.o)) := by rw [H.out.1, allS_nil sb h0]; simp
      have HA := Lib.hid ha
      clear ha h0
      go_wp2
      go_ret2
      exact ⟨acc, A, c, 0, rfl, .inr ⟨HA.out, rfl⟩, by omega, H.out.2.1, H.out.2.2⟩
    · have q0 : sb.toList.isEmpty = false := not_empty h0
      have C1 := Lib.hid (first_any sb (by omega) wr)
      have HN0 := Lib.hid h0
      clear h0
      by_cases he : (firstS sb).2.2 = 0
      · obtain ⟨h1, h2, h3, h4⟩ := first_ok sb he
        have hpos := bytesS_pos (firstS sb).1
        have hst := allS_step sb HN0.out he
        obtain ⟨⟨ob, n, e1⟩, hf⟩ : ∃ y, y = firstS sb := ⟨_, rfl⟩
        rw [← hf] at C1 he h1 h2 h3 hpos hst
        simp only at he h1 h2 h3 hpos hst
        subst he
        have HST := Lib.hid hst
        have hn0 : 0 < n := by omega
        have hn1 : (n : Int) ≤ sb.size := by omega
        have HSH := Lib.hid h1
        clear hst hf h1 h4 hpos h2
        go_wp2_with (fail)
        refine C1.out.mono ?_
        rintro e w2 ⟨f, l, c1, p, i, rfl, ow, hb2⟩
        have b5 := bel_allocRow w2 #[.int .i64 0, .string ⟨#[]⟩, .int .i64 0, .int .i64 0, .bool false, .slice none 0 0, .slice none 0 0, .slice none 0 0, .string ⟨#[]⟩, .int .i64 0, .int .i64 0, .slice none 0 0, .slice none 0 0, .string ⟨#[]⟩, .string ⟨#[]⟩, .int .i64 0, .string ⟨#[]⟩, .string ⟨#[]⟩, .string ⟨#[]⟩] (oc ob f l c1 p i) 32
        obtain ⟨v5, hv5⟩ : ∃ z, z = (w2.alloc (.cells #[.int .i64 0, .string ⟨#[]⟩, .int .i64 0, .int .i64 0, .bool false, .slice none 0 0, .slice none 0 0, .slice none 0 0, .string ⟨#[]⟩, .int .i64 0, .int .i64 0, .slice none 0 0, .slice none 0 0, .string ⟨#[]⟩, .string ⟨#[]⟩, .int .i64 0, .string ⟨#[]⟩, .string ⟨#[]⟩, .string ⟨#[]⟩] 32)).setRow w2.heap.size (oc ob f l c1 p i) := ⟨_, rfl⟩
        rw [← hv5] at b5
        obtain ⟨tb, htb⟩ : ∃ z, z = w2.heap.size := ⟨_, rfl⟩
        have p5 : v5.heap[tb]? = some (.cells (oc ob f l c1 p i) 32 (0, 0)) := by rw [hv5, htb]; exact setRow_heap _ _ _ _ _ _ (G.heap_new _ _)
        have P5 := Lib.hid p5
        have B5 := Lib.hid (H.out.2.2.trans (belowLe H.out.2.2.size (G.bthen hb2 b5)))
        have O5 := Lib.hid (H.out.2.1.below (G.bthen hb2 b5))
        have E5 := Lib.hid (ob_below ((ow.mono H.out.2.2.size)) b5)
        clear p5
        dsimp only
        rename_i hK
        refine hK _ _ ?_
        clear hb2 ow b5
        iterate 15 (first | go_values | go_skip | go_guarded | go_step | go_upon)
        refine wpList_store_row rfl 32 (.tmp 5) (.tmp 13) rfl _ (oc ob f l c1 p i) rfl rfl 32 _ (G.heap_new _ _) size32 rfl (oc_one ob f l c1 p i) ?_
        rw [← hv5, ← htb]
        clear hK hv5 htb
        go_upto_region 6 with (fail)
        iterate 4 (first | go_values | go_skip | go_guarded | go_step)
        refine wpList_load_row rfl 32 (.tmp 5) rfl tb rfl 32 _ (0, 0) _ P5.out Try.underlying32 rfl size32 ?_
        try simp only [Act.put, List.setIfInBounds_toArray, List.set_cons_zero, List.set_cons_succ]
        refine build_obj rfl (.tmp 19) rfl ⟨ob, f, l, c1, p, i⟩ rfl ?_
        try simp only [Act.put, List.setIfInBounds_toArray, List.set_cons_zero, List.set_cons_succ]
        refine G.app_one rfl (.tmp 18) (.tmp 20) 45 32 rfl w.heap.size 19 288 _ Try.underlying45 info32 rfl (by omega) (.slice A acc.length c) acc.length (acc.flatMap ec) (ec ⟨ob, f, l, c1, p, i⟩) rfl rfl rfl (ec_one _) O5.out.own B5.out.size (by unfold maxLen; omega) (by omega) ?_
        intro v6 w6 hown6 hg6
        have O6 := Lib.hid (O5.out.app (e := ⟨ob, f, l, c1, p, i⟩) E5.out hown6 hg6)
        have B6 := Lib.hid (G.below_grown B5.out B5.out.size O5.out.own hg6)
        clear hown6 hg6
        obtain ⟨A6, c6, hv6⟩ := O6.out.slice
        subst hv6
        go_wp2
        go_roundw
        case rel =>
          refine ⟨_, acc ++ [⟨ob, f, l, c1, p, i⟩], A6, c6, rfl, ?_, ?_, Lib.hid ⟨?_, O6.out, B6.out⟩⟩
          · rw [List.length_append]; rfl
          · rw [ByteArray.size_extract, List.length_append, List.length_cons, List.length_nil]; omega
          · rw [H.out.1, HST.out]
            show Option.map _ (Option.map _ (allS (fromS sb n))) = Option.map _ (allS (fromS sb n))
            cases allS (fromS sb n) <;> simp
        case measure => simp [strLen, ByteArray.size_extract]; omega
      · obtain ⟨h1, h2, h3⟩ := first_bad sb he
        have ha : allS s = none := by rw [H.out.1, allS_bad sb HN0.out he]; rfl
        have HA := Lib.hid ha
        obtain ⟨⟨ob, n, e1⟩, hf⟩ : ∃ y, y = firstS sb := ⟨_, rfl⟩
        rw [← hf] at C1 he h1 h2 h3
        simp only at he h1 h2 h3
        subst h1; subst h2
        have q1 : (e1 != 0) = true := by simpa using he
        clear ha hf he h3
        go_wp2_with (fail)
        refine C1.out.mono ?_
        rintro e w2 ⟨f, l, c1, p, i, rfl, ow, hb2⟩
        have b5 := bel_allocRow w2 #[.int .i64 0, .string ⟨#[]⟩, .int .i64 0, .int .i64 0, .bool false, .slice none 0 0, .slice none 0 0, .slice none 0 0, .string ⟨#[]⟩, .int .i64 0, .int .i64 0, .slice none 0 0, .slice none 0 0, .string ⟨#[]⟩, .string ⟨#[]⟩, .int .i64 0, .string ⟨#[]⟩, .string ⟨#[]⟩, .string ⟨#[]⟩] (oc zeroOb f l c1 p i) 32
        obtain ⟨v5, hv5⟩ : ∃ z, z = (w2.alloc (.cells #[.int .i64 0, .string ⟨#[]⟩, .int .i64 0, .int .i64 0, .bool false, .slice none 0 0, .slice none 0 0, .slice none 0 0, .string ⟨#[]⟩, .int .i64 0, .int .i64 0, .slice none 0 0, .slice none 0 0, .string ⟨#[]⟩, .string ⟨#[]⟩, .int .i64 0, .string ⟨#[]⟩, .string ⟨#[]⟩, .string ⟨#[]⟩] 32)).setRow w2.heap.size (oc zeroOb f l c1 p i) := ⟨_, rfl⟩
        rw [← hv5] at b5
        obtain ⟨tb, htb⟩ : ∃ z, z = w2.heap.size := ⟨_, rfl⟩
        have B5 := Lib.hid (H.out.2.2.trans (belowLe H.out.2.2.size (G.bthen hb2 b5)))
        dsimp only
        rename_i hK
        refine hK _ _ ?_
        clear hb2 ow b5
        iterate 15 (first | go_values | go_skip | go_guarded | go_step | go_upon)
        refine wpList_store_row rfl 32 (.tmp 5) (.tmp 13) rfl _ (oc zeroOb f l c1 p i) rfl rfl 32 _ (G.heap_new _ _) size32 rfl (oc_one zeroOb f l c1 p i) ?_
        rw [← hv5, ← htb]
        clear hK hv5 htb
        go_wp2
        go_ret2
        exact ⟨[], none, 0, 4, rfl, .inl ⟨HA.out, rfl, rfl⟩, Nat.zero_le _, ⟨G.owns_nil _ _ _ _, by simp⟩, B5.out⟩
theorem unpackall_any (s : ByteArray) (hs : s.size ≤ 500000) (w : World) :
    Calls Try.prog 23 #[.string s] w fun x w' => ∃ (L : List OE) (A : Option Addr) (c : Nat) (e : Int), x = .returned (.tuple #[.slice A L.length c, .int .i64 e]) ∧ ((allS s = none ∧ e = 4 ∧ L = []) ∨ (allS s = some (L.map (·.o)) ∧ e = 0)) ∧ L.length ≤ s.size ∧ ObsR w' A L ∧ Below w.heap.size w w' := by
  refine (unpackall_own s hs w).mono ?_
  rintro x w' ⟨L, A, c, e, h1, h2, h3, h4, h5⟩
  exact ⟨L, A, c, e, h1, h2, h3, h4.read, h5⟩
end Go.Proofs.Ytolndeolehkjoaa
