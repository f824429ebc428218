/- The reader of bytes: lists. -/
import Derived.Test.YtolndeolehkjoaaRd5
namespace Go.Proofs.Ytolndeolehkjoaa
set_option linter.unusedVariables false
set_option linter.unusedSimpArgs false
open Go.RowKit CodP
theorem owns_grown {w w1 : World} {base e size n : Nat} {v : Value} {xs : List Value} {rb : Nat} (h : w.ownsRow base e size v n xs) (hg : w.grownBy w1 (some rb)) (hlt : rb < base) : w1.ownsRow base e size v n xs :=
  h.kept (row := some rb) hg (by
    cases hv : v.ownBlock with
    | none => simp
    | some k =>
      refine .inr fun e => ?_
      injection e with e
      have := G.owns_base h k hv
      omega)
theorem owns_mono {w : World} {base B e size n : Nat} {v : Value} {xs : List Value} (h : w.ownsRow base e size v n xs) (hB : B ≤ base) : w.ownsRow B e size v n xs :=
  ⟨h.1, h.2.imp id fun ⟨g, cap, cur, h1, h2, h3⟩ => ⟨g, cap, cur, h1, Nat.le_trans hB h2, h3⟩⟩
theorem grown_own {w w1 w2 : World} {base e size n : Nat} {v : Value} {xs : List Value} {rb : Nat} (h : w.grownBy w1 (some rb)) (ho : w1.ownsRow base e size v n xs) (hB : w.heap.size ≤ base) (hg : w1.grownBy w2 v.ownBlock) : w.grownBy w2 (some rb) :=
  ⟨hg.os.trans h.os, hg.tape.trans h.tape, hg.output.trans h.output, Nat.le_trans h.size hg.size, fun i hi hk =>
    (hg.block i (Nat.lt_of_lt_of_le hi h.size) (fun e => by have := G.owns_base ho i e.symm; omega)).trans (h.block i hi hk)⟩
theorem owns_slice {w : World} {base e size n : Nat} {v : Value} {xs : List Value} (h : w.ownsRow base e size v n xs) : ∃ A c, v = .slice A n c := by
  obtain ⟨_, ⟨rfl, rfl⟩ | ⟨g, cap, cur, rfl, _⟩⟩ := h
  · exact ⟨none, 0, rfl⟩
  · exact ⟨_, _, rfl⟩
theorem info9 : (Try.prog.info? 9).map (fun i => (i.zero, i.size, i.bytes)) = some (some (.string ByteArray.empty), 1, 16) := by kernel_rfl
theorem info3 : (Try.prog.info? 3).map (fun i => (i.zero, i.size, i.bytes)) = some (some (.int .i64 0), 1, 8) := by kernel_rfl
theorem info102 : (Try.prog.info? 102).map (fun i => (i.zero, i.size, i.bytes)) = some (some (.agg #[.string ByteArray.empty, .string ByteArray.empty]), 2, 32) := by kernel_rfl
def cS (x : ByteArray) : List Value := [.string x]
def cI (x : Int) : List Value := [.int .i64 x]
def cP (x : ByteArray × ByteArray) : List Value := [.string x.1, .string x.2]
theorem one_S (x : ByteArray) : ∀ u ∈ cS x, u.oneCell' = true := by intro u hu; simp only [cS, List.mem_singleton] at hu; subst hu; rfl
theorem one_I (x : Int) : ∀ u ∈ cI x, u.oneCell' = true := by intro u hu; simp only [cI, List.mem_singleton] at hu; subst hu; rfl
theorem one_P (x : ByteArray × ByteArray) : ∀ u ∈ cP x, u.oneCell' = true := by
  intro u hu
  simp only [cP, List.mem_cons, List.not_mem_nil, or_false] at hu
  rcases hu with rfl | rfl <;> rfl
theorem flat_len {T : Type} (f : T → List Value) (sz : Nat) (hf : ∀ a, (f a).length = sz) (l : List T) : (l.flatMap f).length = l.length * sz := by
  induction l with
  | nil => simp
  | cons a l ih => rw [List.flatMap_cons, List.length_append, ih, hf, List.length_cons, Nat.add_mul]; omega
theorem flat_snoc {T : Type} (f : T → List Value) (l : List T) (a : T) : (l ++ [a]).flatMap f = l.flatMap f ++ f a := by simp
theorem loopI_len {α : Type} (one : RSt → α × RSt) : ∀ (k : Nat) (acc : List α) (st : RSt), (loopI one k acc st).1.length ≤ acc.length + k
  | 0, acc, st => by simp [loopI]
  | k + 1, acc, st => by
      unfold loopI
      split
      · simp only; omega
      · have := loopI_len one k (acc ++ [(one st).1]) (one st).2
        simp only [List.length_append, List.length_singleton] at this
        omega
theorem smallI_nat (s : ByteArray) (m : Int) (st : RSt) : ∃ n : Nat, (n : Int) = (smallI s m st).1 ∧ n ≤ 255 := by
  unfold smallI smallK
  split
  · exact ⟨0, rfl, by omega⟩
  split
  · exact ⟨0, rfl, by omega⟩
  · have := byte0_lt (takeI s 1 st).1
    exact ⟨(byte0 (takeI s 1 st).1).toNat, by simp only; omega, by omega⟩

set_option maxRecDepth 100000 in
set_option maxHeartbeats 2000000 in
theorem readstr_any (B rb : Nat) (s : ByteArray) (st : RSt) (m : Int) (w : World) (h : RdAt w rb s st) (hrB : rb < B) (hB : B ≤ w.heap.size) :
    Calls Try.prog 76 #[.pointer (some ⟨rb, 0, none⟩), .int .i64 m, .func (.func 74) #[.pointer (some ⟨rb, 0, none⟩)] #[]] w fun x w' =>
      ∃ A c, x = .returned (.slice A (listI (textI s) s m st).1.length c) ∧ w'.ownsRow B 9 1 (.slice A (listI (textI s) s m st).1.length c) (listI (textI s) s m st).1.length ((listI (textI s) s m st).1.flatMap cS) ∧
        RdAt w' rb s (listI (textI s) s m st).2 ∧ w.grownBy w' (some rb) := by
  have hs := small_any rb s st m w h
  obtain ⟨n, hn1, hn2⟩ := smallI_nat s m st
  unfold listI
  rw [← hn1]
  obtain ⟨⟨x, st1⟩, hx⟩ : ∃ y, y = smallI s m st := ⟨_, rfl⟩
  rw [← hx] at hs hn1 ⊢
  simp only at hn1
  subst hn1
  simp only [Int.toNat_natCast]
  obtain ⟨⟨L, st2⟩, hL⟩ : ∃ y, y = loopI (textI s) n [] st1 := ⟨_, rfl⟩
  have hll : L.length ≤ 255 := by
    have := loopI_len (textI s) n [] st1
    rw [← hL] at this
    simp only [List.length_nil] at this
    omega
  rw [← hL]
  simp only
  have HS := Lib.hid hs
  have HL := Lib.hid hL
  have HB := Lib.hid (show rb < w.heap.size ∧ w.heap.size ≤ w.heap.size from ⟨h.lt, Nat.le_refl _⟩)
  have HBB := Lib.hid hB
  have HLL := Lib.hid hll
  clear hs hx h hL hrB hB hll
  go_enter Try.func76, Try.ntmps76
  go_wp2_with (fail)
  refine HS.out.mono ?_
  rintro e w1 ⟨rfl, h1, g1⟩
  have H1 := Lib.hid h1
  have G1 := Lib.hid g1
  clear h1 g1 HS
  go_wp2_with (fail)
  go_loopw [7, 8] (fun v i wr => ∃ (k : Nat) (acc : List ByteArray) (q : RSt), i = .int .i64 k ∧ wr.ownsRow w.heap.size 9 1 v acc.length (acc.flatMap cS) ∧ Hid (RdAt wr rb s q ∧ w.grownBy wr (some rb) ∧ (L, st2) = loopI (textI s) k acc q ∧ acc.length + k ≤ 255)) (fun _ i _ => (intOf i).toNat)
  case atStart => exact ⟨n, [], st1, rfl, G.owns_nil _ _ _ _, Lib.hid ⟨H1.out, G1.out, HL.out, by simpa using hn2⟩⟩
  case round =>
    obtain ⟨k, acc, ⟨qa, qe⟩, rfl, hown, H⟩ := hrel
    have c2 := H.out.1.cell2
    simp only at c2
    by_cases hk : k = 0
    · subst hk
      have hfin : L = acc ∧ st2 = (qa, qe) := by
        have := H.out.2.2.1
        simp only [loopI, Prod.mk.injEq] at this
        exact this
      obtain ⟨rfl, rfl⟩ := hfin
      obtain ⟨A, c, rfl⟩ := owns_slice hown
      have HO := Lib.hid hown
      clear hown
      go_wp2
      go_ret
      exact ⟨A, c, rfl, owns_mono HO.out HBB.out, H.out.1, H.out.2.1⟩
    · obtain ⟨j, rfl⟩ : ∃ j, k = j + 1 := ⟨k - 1, by omega⟩
      have hk0 : (0 : Int) < ((j + 1 : Nat) : Int) := by omega
      by_cases hq : qe = 0
      · subst hq
        have ho := text_any rb s (qa, 0) wr H.out.1
        have hnext := H.out.2.2.1
        simp only [loopI, ne_eq, not_true, if_false] at hnext
        obtain ⟨⟨x, q2⟩, hxq⟩ : ∃ y, y = (textI s) (qa, (0 : Int)) := ⟨_, rfl⟩
        rw [← hxq] at ho hnext
        have HO := Lib.hid ho
        have HN := Lib.hid hnext
        have hlen := H.out.2.2.2
        have hl63 : acc.length + 1 ≤ maxLen := by unfold maxLen; omega
        have hl16 : (acc.length + 1) * 16 ≤ 140737488355328 := by omega
        have hBw : w.heap.size ≤ wr.heap.size := Nat.le_trans HB.out.2 H.out.2.1.size
        have HBW := Lib.hid hBw
        clear ho hnext hxq hk hBw
        go_wp2_with (fail)
        refine HO.out.mono ?_
        rintro e w3 ⟨rfl, h3, g3⟩
        have H3 := Lib.hid h3
        have G3 := Lib.hid g3
        have hown3 := owns_grown hown g3 HB.out.1
        clear h3 g3 hown
        have HW3 := Lib.hid (Nat.le_trans HBW.out G3.out.size)
        go_wp2_with (at_builtin; refine G.app_one rfl _ _ 28 9 rfl w.heap.size 1 16 _ Try.underlying28 info9 rfl (by decide) u7 acc.length (acc.flatMap cS) (cS x) rfl rfl rfl (one_S x) hown3 HW3.out hl63 hl16 ?_; intro v1 w4 hown4 hg4)
        go_roundw
        case rel =>
          refine ⟨j, acc ++ [x], q2, by go_num, by rw [flat_snoc, List.length_append]; exact hown4, Lib.hid ⟨?_, ?_, ?_, ?_⟩⟩
          · exact ⟨(hg4.block rb H3.out.lt (fun e => by have := G.owns_base hown3 rb e.symm; have := HB.out.1; omega)).trans H3.out.is, H3.out.le, H3.out.sz⟩
          · exact grown_own (H.out.2.1.trans G3.out) hown3 (Nat.le_refl _) hg4
          · exact HN.out
          · simp; omega
        case measure => simp [intOf]
      · have hqe : (qe == 0) = false := by simpa using hq
        have hfin : L = acc ∧ st2 = (qa, qe) := by
          have := H.out.2.2.1
          rw [loop_stay _ _ _ _ _ hq, Prod.mk.injEq] at this
          exact this
        obtain ⟨rfl, rfl⟩ := hfin
        obtain ⟨A, c, rfl⟩ := owns_slice hown
        have HO := Lib.hid hown
        clear hown hq
        go_wp2
        go_ret
        exact ⟨A, c, rfl, owns_mono HO.out HBB.out, H.out.1, H.out.2.1⟩

set_option maxRecDepth 100000 in
set_option maxHeartbeats 2000000 in
theorem readint_any (B rb xb : Nat) (s : ByteArray) (st : RSt) (m : Int) (w : World) (h : RdAt w rb s st) (hxb : Box w xb rb) (hrB : rb < B) (hB : B ≤ w.heap.size) :
    Calls Try.prog 79 #[.pointer (some ⟨rb, 0, none⟩), .int .i64 m, .func (.func 80) #[] #[.pointer (some ⟨xb, 0, none⟩)]] w fun x w' =>
      ∃ A c, x = .returned (.slice A (listI (smallI s 255) s m st).1.length c) ∧ w'.ownsRow B 3 1 (.slice A (listI (smallI s 255) s m st).1.length c) (listI (smallI s 255) s m st).1.length ((listI (smallI s 255) s m st).1.flatMap cI) ∧
        RdAt w' rb s (listI (smallI s 255) s m st).2 ∧ w.grownBy w' (some rb) := by
  have hs := small_any rb s st m w h
  obtain ⟨n, hn1, hn2⟩ := smallI_nat s m st
  unfold listI
  rw [← hn1]
  obtain ⟨⟨x, st1⟩, hx⟩ : ∃ y, y = smallI s m st := ⟨_, rfl⟩
  rw [← hx] at hs hn1 ⊢
  simp only at hn1
  subst hn1
  simp only [Int.toNat_natCast]
  obtain ⟨⟨L, st2⟩, hL⟩ : ∃ y, y = loopI (smallI s 255) n [] st1 := ⟨_, rfl⟩
  have hll : L.length ≤ 255 := by
    have := loopI_len (smallI s 255) n [] st1
    rw [← hL] at this
    simp only [List.length_nil] at this
    omega
  rw [← hL]
  simp only
  have HS := Lib.hid hs
  have HL := Lib.hid hL
  have HB := Lib.hid (show rb < w.heap.size ∧ w.heap.size ≤ w.heap.size from ⟨h.lt, Nat.le_refl _⟩)
  have HBB := Lib.hid hB
  have HLL := Lib.hid hll
  have HX := Lib.hid hxb
  clear hxb
  clear hs hx h hL hrB hB hll
  go_enter Try.func79, Try.ntmps79
  go_wp2_with (fail)
  refine HS.out.mono ?_
  rintro e w1 ⟨rfl, h1, g1⟩
  have H1 := Lib.hid h1
  have G1 := Lib.hid g1
  have X1 := Lib.hid (HX.out.grown G1.out)
  clear h1 g1 HS
  go_wp2_with (fail)
  go_loopw [7, 8] (fun v i wr => ∃ (k : Nat) (acc : List Int) (q : RSt), i = .int .i64 k ∧ wr.ownsRow w.heap.size 3 1 v acc.length (acc.flatMap cI) ∧ Hid (RdAt wr rb s q ∧ w.grownBy wr (some rb) ∧ (L, st2) = loopI (smallI s 255) k acc q ∧ acc.length + k ≤ 255 ∧ Box wr xb rb)) (fun _ i _ => (intOf i).toNat)
  case atStart => exact ⟨n, [], st1, rfl, G.owns_nil _ _ _ _, Lib.hid ⟨H1.out, G1.out, HL.out, by simpa using hn2, X1.out⟩⟩
  case round =>
    obtain ⟨k, acc, ⟨qa, qe⟩, rfl, hown, H⟩ := hrel
    have c2 := H.out.1.cell2
    simp only at c2
    by_cases hk : k = 0
    · subst hk
      have hfin : L = acc ∧ st2 = (qa, qe) := by
        have := H.out.2.2.1
        simp only [loopI, Prod.mk.injEq] at this
        exact this
      obtain ⟨rfl, rfl⟩ := hfin
      obtain ⟨A, c, rfl⟩ := owns_slice hown
      have HO := Lib.hid hown
      clear hown
      go_wp2
      go_ret
      exact ⟨A, c, rfl, owns_mono HO.out HBB.out, H.out.1, H.out.2.1⟩
    · obtain ⟨j, rfl⟩ : ∃ j, k = j + 1 := ⟨k - 1, by omega⟩
      have hk0 : (0 : Int) < ((j + 1 : Nat) : Int) := by omega
      by_cases hq : qe = 0
      · subst hq
        have ho := oneint_any rb xb s (qa, 0) wr H.out.1 H.out.2.2.2.2
        have hnext := H.out.2.2.1
        simp only [loopI, ne_eq, not_true, if_false] at hnext
        obtain ⟨⟨x, q2⟩, hxq⟩ : ∃ y, y = (smallI s 255) (qa, (0 : Int)) := ⟨_, rfl⟩
        rw [← hxq] at ho hnext
        have HO := Lib.hid ho
        have HN := Lib.hid hnext
        have hlen := H.out.2.2.2.1
        have hl63 : acc.length + 1 ≤ maxLen := by unfold maxLen; omega
        have hl16 : (acc.length + 1) * 8 ≤ 140737488355328 := by omega
        have hBw : w.heap.size ≤ wr.heap.size := Nat.le_trans HB.out.2 H.out.2.1.size
        have HBW := Lib.hid hBw
        clear ho hnext hxq hk hBw
        go_wp2_with (fail)
        refine HO.out.mono ?_
        rintro e w3 ⟨rfl, h3, g3⟩
        have H3 := Lib.hid h3
        have G3 := Lib.hid g3
        have hown3 := owns_grown hown g3 HB.out.1
        have X3 := Lib.hid (H.out.2.2.2.2.grown G3.out)
        clear h3 g3 hown
        have HW3 := Lib.hid (Nat.le_trans HBW.out G3.out.size)
        go_wp2_with (at_builtin; refine G.app_one rfl _ _ 30 3 rfl w.heap.size 1 8 _ Try.underlying30 info3 rfl (by decide) u7 acc.length (acc.flatMap cI) (cI x) rfl rfl rfl (one_I x) hown3 HW3.out hl63 hl16 ?_; intro v1 w4 hown4 hg4)
        go_roundw
        case rel =>
          refine ⟨j, acc ++ [x], q2, by go_num, by rw [flat_snoc, List.length_append]; exact hown4, Lib.hid ⟨?_, ?_, ?_, ?_, ?_⟩⟩
          · exact ⟨(hg4.block rb H3.out.lt (fun e => by have := G.owns_base hown3 rb e.symm; have := HB.out.1; omega)).trans H3.out.is, H3.out.le, H3.out.sz⟩
          · exact grown_own (H.out.2.1.trans G3.out) hown3 (Nat.le_refl _) hg4
          · exact HN.out
          · simp; omega
          · exact ⟨(hg4.block xb X3.out.lt (fun e => by have := G.owns_base hown3 xb e.symm; have := HX.out.lt; omega)).trans X3.out.is, X3.out.ne⟩
        case measure => simp [intOf]
      · have hqe : (qe == 0) = false := by simpa using hq
        have hfin : L = acc ∧ st2 = (qa, qe) := by
          have := H.out.2.2.1
          rw [loop_stay _ _ _ _ _ hq, Prod.mk.injEq] at this
          exact this
        obtain ⟨rfl, rfl⟩ := hfin
        obtain ⟨A, c, rfl⟩ := owns_slice hown
        have HO := Lib.hid hown
        clear hown hq
        go_wp2
        go_ret
        exact ⟨A, c, rfl, owns_mono HO.out HBB.out, H.out.1, H.out.2.1⟩

set_option maxRecDepth 100000 in
set_option maxHeartbeats 2000000 in
theorem readpair_any (B rb xb : Nat) (s : ByteArray) (st : RSt) (m : Int) (w : World) (h : RdAt w rb s st) (hxb : Box w xb rb) (hrB : rb < B) (hB : B ≤ w.heap.size) :
    Calls Try.prog 77 #[.pointer (some ⟨rb, 0, none⟩), .int .i64 m, .func (.func 78) #[] #[.pointer (some ⟨xb, 0, none⟩)]] w fun x w' =>
      ∃ A c, x = .returned (.slice A (listI (pairI s) s m st).1.length c) ∧ w'.ownsRow B 102 2 (.slice A (listI (pairI s) s m st).1.length c) (listI (pairI s) s m st).1.length ((listI (pairI s) s m st).1.flatMap cP) ∧
        RdAt w' rb s (listI (pairI s) s m st).2 ∧ w.grownBy w' (some rb) := by
  have hs := small_any rb s st m w h
  obtain ⟨n, hn1, hn2⟩ := smallI_nat s m st
  unfold listI
  rw [← hn1]
  obtain ⟨⟨x, st1⟩, hx⟩ : ∃ y, y = smallI s m st := ⟨_, rfl⟩
  rw [← hx] at hs hn1 ⊢
  simp only at hn1
  subst hn1
  simp only [Int.toNat_natCast]
  obtain ⟨⟨L, st2⟩, hL⟩ : ∃ y, y = loopI (pairI s) n [] st1 := ⟨_, rfl⟩
  have hll : L.length ≤ 255 := by
    have := loopI_len (pairI s) n [] st1
    rw [← hL] at this
    simp only [List.length_nil] at this
    omega
  rw [← hL]
  simp only
  have HS := Lib.hid hs
  have HL := Lib.hid hL
  have HB := Lib.hid (show rb < w.heap.size ∧ w.heap.size ≤ w.heap.size from ⟨h.lt, Nat.le_refl _⟩)
  have HBB := Lib.hid hB
  have HLL := Lib.hid hll
  have HX := Lib.hid hxb
  clear hxb
  clear hs hx h hL hrB hB hll
  go_enter Try.func77, Try.ntmps77
  go_wp2_with (fail)
  refine HS.out.mono ?_
  rintro e w1 ⟨rfl, h1, g1⟩
  have H1 := Lib.hid h1
  have G1 := Lib.hid g1
  have X1 := Lib.hid (HX.out.grown G1.out)
  clear h1 g1 HS
  go_wp2_with (fail)
  go_loopw [7, 8] (fun v i wr => ∃ (k : Nat) (acc : List (ByteArray × ByteArray)) (q : RSt), i = .int .i64 k ∧ wr.ownsRow w.heap.size 102 2 v acc.length (acc.flatMap cP) ∧ Hid (RdAt wr rb s q ∧ w.grownBy wr (some rb) ∧ (L, st2) = loopI (pairI s) k acc q ∧ acc.length + k ≤ 255 ∧ Box wr xb rb)) (fun _ i _ => (intOf i).toNat)
  case atStart => exact ⟨n, [], st1, rfl, G.owns_nil _ _ _ _, Lib.hid ⟨H1.out, G1.out, HL.out, by simpa using hn2, X1.out⟩⟩
  case round =>
    obtain ⟨k, acc, ⟨qa, qe⟩, rfl, hown, H⟩ := hrel
    have c2 := H.out.1.cell2
    simp only at c2
    by_cases hk : k = 0
    · subst hk
      have hfin : L = acc ∧ st2 = (qa, qe) := by
        have := H.out.2.2.1
        simp only [loopI, Prod.mk.injEq] at this
        exact this
      obtain ⟨rfl, rfl⟩ := hfin
      obtain ⟨A, c, rfl⟩ := owns_slice hown
      have HO := Lib.hid hown
      clear hown
      go_wp2
      go_ret
      exact ⟨A, c, rfl, owns_mono HO.out HBB.out, H.out.1, H.out.2.1⟩
    · obtain ⟨j, rfl⟩ : ∃ j, k = j + 1 := ⟨k - 1, by omega⟩
      have hk0 : (0 : Int) < ((j + 1 : Nat) : Int) := by omega
      by_cases hq : qe = 0
      · subst hq
        have ho := onepair_any rb xb s (qa, 0) wr H.out.1 H.out.2.2.2.2
        have hnext := H.out.2.2.1
        simp only [loopI, ne_eq, not_true, if_false] at hnext
        obtain ⟨⟨x, q2⟩, hxq⟩ : ∃ y, y = (pairI s) (qa, (0 : Int)) := ⟨_, rfl⟩
        rw [← hxq] at ho hnext
        have HO := Lib.hid ho
        have HN := Lib.hid hnext
        have hlen := H.out.2.2.2.1
        have hl63 : acc.length + 1 ≤ maxLen := by unfold maxLen; omega
        have hl16 : (acc.length + 1) * 32 ≤ 140737488355328 := by omega
        have hBw : w.heap.size ≤ wr.heap.size := Nat.le_trans HB.out.2 H.out.2.1.size
        have HBW := Lib.hid hBw
        clear ho hnext hxq hk hBw
        go_wp2_with (fail)
        refine HO.out.mono ?_
        rintro e w3 ⟨rfl, h3, g3⟩
        have H3 := Lib.hid h3
        have G3 := Lib.hid g3
        have hown3 := owns_grown hown g3 HB.out.1
        have X3 := Lib.hid (H.out.2.2.2.2.grown G3.out)
        clear h3 g3 hown
        have HW3 := Lib.hid (Nat.le_trans HBW.out G3.out.size)
        go_wp2_with (at_builtin; refine G.app_one rfl _ _ 29 102 rfl w.heap.size 2 32 _ Try.underlying29 info102 rfl (by decide) u7 acc.length (acc.flatMap cP) (cP x) rfl rfl rfl (one_P x) hown3 HW3.out hl63 hl16 ?_; intro v1 w4 hown4 hg4)
        go_roundw
        case rel =>
          refine ⟨j, acc ++ [x], q2, by go_num, by rw [flat_snoc, List.length_append]; exact hown4, Lib.hid ⟨?_, ?_, ?_, ?_, ?_⟩⟩
          · exact ⟨(hg4.block rb H3.out.lt (fun e => by have := G.owns_base hown3 rb e.symm; have := HB.out.1; omega)).trans H3.out.is, H3.out.le, H3.out.sz⟩
          · exact grown_own (H.out.2.1.trans G3.out) hown3 (Nat.le_refl _) hg4
          · exact HN.out
          · simp; omega
          · exact ⟨(hg4.block xb X3.out.lt (fun e => by have := G.owns_base hown3 xb e.symm; have := HX.out.lt; omega)).trans X3.out.is, X3.out.ne⟩
        case measure => simp [intOf]
      · have hqe : (qe == 0) = false := by simpa using hq
        have hfin : L = acc ∧ st2 = (qa, qe) := by
          have := H.out.2.2.1
          rw [loop_stay _ _ _ _ _ hq, Prod.mk.injEq] at this
          exact this
        obtain ⟨rfl, rfl⟩ := hfin
        obtain ⟨A, c, rfl⟩ := owns_slice hown
        have HO := Lib.hid hown
        clear hown hq
        go_wp2
        go_ret
        exact ⟨A, c, rfl, owns_mono HO.out HBB.out, H.out.1, H.out.2.1⟩
end Go.Proofs.Ytolndeolehkjoaa
