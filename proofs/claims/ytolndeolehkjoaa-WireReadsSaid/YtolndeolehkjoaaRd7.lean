/- The reader of bytes: an object. -/
import Derived.Test.YtolndeolehkjoaaRd6
namespace Go.Proofs.Ytolndeolehkjoaa
set_option linter.unusedVariables false
set_option linter.unusedSimpArgs false
open Go.RowKit CodP
theorem bel_alloc (w : World) (o : Obj) : Below w.heap.size w (w.alloc o) := (Below.refl _ _).alloc (Nat.le_refl _) _
/-- where a row lies, and its room -/
structure Sl where
  A : Option Addr
  c : Nat
/-- an object's cells -/
def oc (o : Ob) (f l c p i : Sl) : Array Value :=
  #[.int .i64 o.kind, .string o.name, .int .i64 o.uid, .int .i64 o.version, .bool o.deleting, .slice f.1 o.fins.length f.2, .slice l.1 o.labels.length l.2, .slice c.1 o.cidrs.length c.2, .string o.status, .int .i64 o.type, .int .i64 o.policy,
    .slice p.1 o.fams.length p.2, .slice i.1 o.ips.length i.2, .string o.v4, .string o.v6, .int .i64 o.bits, .string o.sel, .string o.about, .string o.reason]
def Sl0 : Sl := ⟨none, 0⟩
/-- rows of an object that were made behind a place -/
structure ObOwn (w : World) (B : Nat) (o : Ob) (f l c p i : Sl) : Prop where
  fr : w.ownsRow B 9 1 (.slice f.1 o.fins.length f.2) o.fins.length (o.fins.flatMap cS)
  lr : w.ownsRow B 102 2 (.slice l.1 o.labels.length l.2) o.labels.length (o.labels.flatMap cP)
  cr : w.ownsRow B 9 1 (.slice c.1 o.cidrs.length c.2) o.cidrs.length (o.cidrs.flatMap cS)
  pr : w.ownsRow B 3 1 (.slice p.1 o.fams.length p.2) o.fams.length (o.fams.flatMap cI)
  ir : w.ownsRow B 9 1 (.slice i.1 o.ips.length i.2) o.ips.length (o.ips.flatMap cS)
theorem ObOwn.grown {w w1 : World} {B rb : Nat} {o : Ob} {f l c p i : Sl} (h : ObOwn w B o f l c p i) (hg : w.grownBy w1 (some rb)) (hlt : rb < B) : ObOwn w1 B o f l c p i :=
  ⟨owns_grown h.fr hg hlt, owns_grown h.lr hg hlt, owns_grown h.cr hg hlt, owns_grown h.pr hg hlt, owns_grown h.ir hg hlt⟩
theorem ObOwn.mono {w : World} {B C : Nat} {o : Ob} {f l c p i : Sl} (h : ObOwn w B o f l c p i) (hC : C ≤ B) : ObOwn w C o f l c p i :=
  ⟨owns_mono h.fr hC, owns_mono h.lr hC, owns_mono h.cr hC, owns_mono h.pr hC, owns_mono h.ir hC⟩
theorem ObOwn.nil (w : World) (B : Nat) (k : Int) : ObOwn w B { zeroOb with kind := k } Sl0 Sl0 Sl0 Sl0 Sl0 :=
  ⟨G.owns_nil _ _ _ _, G.owns_nil _ _ _ _, G.owns_nil _ _ _ _, G.owns_nil _ _ _ _, G.owns_nil _ _ _ _⟩
/-- the state of the walk -/
structure OS (w0 : World) (rb xb ob : Nat) (s : ByteArray) (st : RSt) (o : Ob) (f l c p i : Sl) (w : World) : Prop where
  rd : RdAt w rb s st
  box : Box w xb rb
  is : w.heap[ob]? = some (.cells (oc o f l c p i) 32 (0, 0))
  res : ∃ cs, cs.size = 19 ∧ w.heap[xb + 1]? = some (.cells cs 32 (0, 0))
  own : ObOwn w (ob + 1) o f l c p i
  gr : w0.grownBy w (some rb)
  lt : rb < w0.heap.size ∧ w0.heap.size ≤ xb ∧ xb + 1 < ob
theorem OS.ob_lt {w0 w : World} {rb xb ob : Nat} {s : ByteArray} {st : RSt} {o : Ob} {f l c p i : Sl} (h : OS w0 rb xb ob s st o f l c p i w) : ob < w.heap.size := (Array.getElem?_eq_some_iff.1 h.is).1
theorem OS.call {w0 w w1 : World} {rb xb ob : Nat} {s : ByteArray} {st st1 : RSt} {o : Ob} {f l c p i : Sl} (h : OS w0 rb xb ob s st o f l c p i w) (hr : RdAt w1 rb s st1) (hg : w.grownBy w1 (some rb)) : OS w0 rb xb ob s st1 o f l c p i w1 where
  rd := hr
  box := h.box.grown hg
  is := (hg.block ob h.ob_lt (by intro e; injection e with e; have := h.lt; omega)).trans h.is
  res := by
    obtain ⟨cs, h1, h2⟩ := h.res
    exact ⟨cs, h1, (hg.block _ (by have := h.lt; have := h.ob_lt; omega) (by intro e; injection e with e; have := h.lt; omega)).trans h2⟩
  own := h.own.grown hg (by have := h.lt; omega)
  gr := h.gr.trans hg
  lt := h.lt
theorem OS.drew {w0 w : World} {rb xb ob : Nat} {s : ByteArray} {st : RSt} {o : Ob} {f l c p i : Sl} (h : OS w0 rb xb ob s st o f l c p i w) : OS w0 rb xb ob s st o f l c p i w.drew :=
  h.call ⟨h.rd.is, h.rd.le, h.rd.sz⟩ ⟨rfl, rfl, rfl, Nat.le_refl _, fun _ _ _ => rfl⟩
theorem OS.drewN {w0 w : World} {rb xb ob : Nat} {s : ByteArray} {st : RSt} {o : Ob} {f l c p i : Sl} (h : OS w0 rb xb ob s st o f l c p i w) (n : Nat) : OS w0 rb xb ob s st o f l c p i (w.drewN n) :=
  h.call ⟨h.rd.is, h.rd.le, h.rd.sz⟩ ⟨rfl, rfl, rfl, Nat.le_refl _, fun _ _ _ => rfl⟩
theorem OS.set {w0 w : World} {rb xb ob : Nat} {s : ByteArray} {st : RSt} {o : Ob} {f l c p i : Sl} (h : OS w0 rb xb ob s st o f l c p i w) (j : Nat) (v : Value) (o' : Ob) (f' l' c' p' i' : Sl)
    (he : (oc o f l c p i).setIfInBounds j v = oc o' f' l' c' p' i') (ho : ObOwn w (ob + 1) o' f' l' c' p' i') : OS w0 rb xb ob s st o' f' l' c' p' i' (w.setCell ⟨ob, j, none⟩ v) where
  rd := h.rd.other (by have := h.lt; omega) _ _
  box := h.box.other (by have := h.lt; omega) _ _
  is := by rw [heap_setCell_same _ _ _ _ _ _ h.is, he]
  res := by
    obtain ⟨cs, h1, h2⟩ := h.res
    exact ⟨cs, h1, (Below.heap_setCell _ _ _ _ (by have := h.lt; intro e; simp only at e; omega)).trans h2⟩
  own := ho.grown (grown_set w ob j v) (Nat.lt_succ_self _)
  gr := h.gr.setNew (by have := h.lt; omega) _ _
  lt := h.lt
theorem OS.cx {w0 w : World} {rb xb ob : Nat} {s : ByteArray} {st : RSt} {o : Ob} {f l c p i : Sl} (h : OS w0 rb xb ob s st o f l c p i w) : w.cell? ⟨xb, 0, none⟩ = some (.pointer (some ⟨rb, 0, none⟩)) := h.box.cell
theorem OS.fz {w0 w : World} {rb xb ob : Nat} {s : ByteArray} {st : RSt} {o : Ob} {f l c p i : Sl} (h : OS w0 rb xb ob s st o f l c p i w) (j : Nat) : w.frozen? ⟨ob, j, none⟩ = false := frozk w ob h.is j
theorem OS.cl {w0 w : World} {rb xb ob : Nat} {s : ByteArray} {st : RSt} {o : Ob} {f l c p i : Sl} (h : OS w0 rb xb ob s st o f l c p i w) (j : Nat) : w.cell? ⟨ob, j, none⟩ = (oc o f l c p i)[j]? := by simp [World.cell?, h.is]
theorem OS.ck {w0 w : World} {rb xb ob : Nat} {s : ByteArray} {st : RSt} {o : Ob} {f l c p i : Sl} (h : OS w0 rb xb ob s st o f l c p i w) : w.cell? ⟨ob, 0, none⟩ = some (.int .i64 o.kind) := cellk w ob h.is 0 (Nat.zero_lt_succ _)
theorem grown_row (w : World) (r : Nat) (cs : Array Value) : w.grownBy (w.setRow r cs) (some r) :=
  ⟨rfl, rfl, rfl, by rw [size_setRow]; exact Nat.le_refl _, fun j _ hj => setRow_other _ _ _ _ (fun e => hj (e ▸ rfl))⟩
theorem RdAt.row {w : World} {rb r : Nat} {s : ByteArray} {st : RSt} {cs : Array Value} (h : RdAt w rb s st) (hr : rb < r) : RdAt (w.setRow r cs) rb s st :=
  ⟨(setRow_other _ _ _ _ (by omega)).trans h.is, h.le, h.sz⟩
theorem _root_.Go.World.grownBy.row {w w1 : World} {k : Option Nat} {r : Nat} {cs : Array Value} (h : w.grownBy w1 k) (hr : w.heap.size ≤ r) : w.grownBy (w1.setRow r cs) k :=
  ⟨h.os, h.tape, h.output, by rw [size_setRow]; exact h.size, fun j hj hk => (setRow_other _ _ _ _ (by omega)).trans (h.block j hj hk)⟩
theorem ObOwn.row {w : World} {B r : Nat} {o : Ob} {f l c p i : Sl} {cs : Array Value} (h : ObOwn w B o f l c p i) (hr : r < B) : ObOwn (w.setRow r cs) B o f l c p i :=
  h.grown (grown_row w r cs) hr
theorem oc_one (o : Ob) (f l c p i : Sl) : (oc o f l c p i).all (·.oneCell') = true := by simp [oc, Value.oneCell']
theorem size32 : (Try.prog.info? 32).map (·.size) = some 19 := by kernel_rfl
theorem bel_allocRow (w : World) (a b : Array Value) (T : TypeId) : Below w.heap.size w ((w.alloc (.cells a T)).setRow w.heap.size b) :=
  ⟨rfl, rfl, rfl, by rw [size_setRow]; simp, fun i hi => (setRow_other _ _ _ _ (by omega)).trans ((bel_alloc w _).block i hi)⟩
set_option maxRecDepth 100000 in
set_option maxHeartbeats 8000000 in
theorem obj_any (rb : Nat) (s : ByteArray) (st : RSt) (w : World) (h : RdAt w rb s st) :
    Calls Try.prog 44 #[.pointer (some ⟨rb, 0, none⟩)] w fun x w' => ∃ f l c p i, x = .returned (.agg (oc (obI s st).1 f l c p i)) ∧ ObOwn w' w.heap.size (obI s st).1 f l c p i ∧ RdAt w' rb s (obI s st).2 ∧ w.grownBy w' (some rb) := by
  have hmf : ∀ (fn : Fn) (first cap : Array Value) (w : World), (Instr.makeFunc fn first cap).run Try.prog w = .ok (.func fn first cap) w := fun _ _ _ _ => rfl
  obtain ⟨w1, hw1⟩ : ∃ w1, w1 = (w.alloc (.cells #[.pointer (some ⟨rb, 0, none⟩)] 80)).alloc (.cells #[.int .i64 0, .string ⟨#[]⟩, .int .i64 0, .int .i64 0, .bool false, .slice none 0 0, .slice none 0 0, .slice none 0 0, .string ⟨#[]⟩, .int .i64 0, .int .i64 0, .slice none 0 0, .slice none 0 0, .string ⟨#[]⟩, .string ⟨#[]⟩, .int .i64 0, .string ⟨#[]⟩, .string ⟨#[]⟩, .string ⟨#[]⟩] 32) := ⟨_, rfl⟩
  have hlt := h.lt
  have r1 : RdAt w1 rb s st := by rw [hw1]; exact (h.alloc _).alloc _
  have x1 : Box w1 w.heap.size rb := by
    rw [hw1]
    exact Box.alloc ⟨G.heap_new _ _, by omega⟩ _
  have g1 : w.grownBy w1 (some rb) := by rw [hw1]; exact (World.grownBy_alloc _ _ _).trans (World.grownBy_alloc _ _ _)
  have p1 : w1.heap[w.heap.size + 1]? = some (.cells (oc zeroOb Sl0 Sl0 Sl0 Sl0 Sl0) 32 (0, 0)) := by
    rw [hw1]
    have h2 := G.heap_new (w.alloc (.cells #[.pointer (some ⟨rb, 0, none⟩)] 80)) (.cells (oc zeroOb Sl0 Sl0 Sl0 Sl0 Sl0) 32)
    rw [show (w.alloc (.cells #[.pointer (some ⟨rb, 0, none⟩)] 80)).heap.size = w.heap.size + 1 by simp] at h2
    exact h2
  have hs1 : w1.heap.size = w.heap.size + 2 := by rw [hw1]; simp
  have cx := x1.cell
  have hc := small_any rb s st 4 w1 r1
  obtain ⟨⟨k, st0⟩, he⟩ : ∃ y, y = smallI s 4 st := ⟨_, rfl⟩
  rw [← he] at hc
  have E := Lib.hid he.symm
  have HC := Lib.hid hc
  have R1 := Lib.hid r1
  have X1 := Lib.hid x1
  have G1 := Lib.hid g1
  have P1 := Lib.hid p1
  have HW := Lib.hid hw1
  have HL := Lib.hid hlt
  have HS := Lib.hid hs1
  clear h r1 x1 g1 p1 hw1 hlt hs1 hc he
  go_enter Try.func44, Try.ntmps44
  go_wp2_with (fail)
  rw [← HW.out]
  refine HC.out.mono ?_
  rintro e w2 ⟨rfl, r2, g2⟩
  have b3 := bel_allocRow w2 #[.int .i64 0, .string ⟨#[]⟩, .int .i64 0, .int .i64 0, .bool false, .slice none 0 0, .slice none 0 0, .slice none 0 0, .string ⟨#[]⟩, .int .i64 0, .int .i64 0, .slice none 0 0, .slice none 0 0, .string ⟨#[]⟩, .string ⟨#[]⟩, .int .i64 0, .string ⟨#[]⟩, .string ⟨#[]⟩, .string ⟨#[]⟩] #[.int .i64 k, .string ⟨#[]⟩, .int .i64 0, .int .i64 0, .bool false, .slice none 0 0, .slice none 0 0, .slice none 0 0, .string ⟨#[]⟩, .int .i64 0, .int .i64 0, .slice none 0 0, .slice none 0 0, .string ⟨#[]⟩, .string ⟨#[]⟩, .int .i64 0, .string ⟨#[]⟩, .string ⟨#[]⟩, .string ⟨#[]⟩] 32
  have o3 : OS w rb w.heap.size w2.heap.size s st0 { zeroOb with kind := k } Sl0 Sl0 Sl0 Sl0 Sl0 ((w2.alloc (.cells #[.int .i64 0, .string ⟨#[]⟩, .int .i64 0, .int .i64 0, .bool false, .slice none 0 0, .slice none 0 0, .slice none 0 0, .string ⟨#[]⟩, .int .i64 0, .int .i64 0, .slice none 0 0, .slice none 0 0, .string ⟨#[]⟩, .string ⟨#[]⟩, .int .i64 0, .string ⟨#[]⟩, .string ⟨#[]⟩, .string ⟨#[]⟩] 32)).setRow w2.heap.size #[.int .i64 k, .string ⟨#[]⟩, .int .i64 0, .int .i64 0, .bool false, .slice none 0 0, .slice none 0 0, .slice none 0 0, .string ⟨#[]⟩, .int .i64 0, .int .i64 0, .slice none 0 0, .slice none 0 0, .string ⟨#[]⟩, .string ⟨#[]⟩, .int .i64 0, .string ⟨#[]⟩, .string ⟨#[]⟩, .string ⟨#[]⟩]) :=
    { rd := r2.below b3
      box := (X1.out.grown g2).grown (grown_below b3 _)
      is := setRow_heap _ _ _ _ _ _ (G.heap_new _ _)
      res := ⟨oc zeroOb Sl0 Sl0 Sl0 Sl0 Sl0, rfl, ((b3.block _ (Nat.lt_of_lt_of_le (Array.getElem?_eq_some_iff.1 P1.out).1 g2.size)).trans (g2.block _ (Array.getElem?_eq_some_iff.1 P1.out).1 (by intro e; injection e with e; have := HL.out; omega))).trans P1.out⟩
      own := ObOwn.nil _ _ _
      gr := (G1.out.trans g2).trans (grown_below b3 _)
      lt := ⟨HL.out, Nat.le_refl _, by have := HS.out; have := g2.size; omega⟩ }
  have O3 := Lib.hid o3
  clear r2 g2 cx o3 b3
  dsimp only
  rename_i hK
  refine hK _ _ ?_
  iterate 6 (first | go_values | go_skip | go_guarded | go_step | go_upon)
  refine wpList_store_row rfl 32 (.tmp 3) (.tmp 6) rfl _ _ rfl rfl 32 _ (G.heap_new _ _) size32 rfl (oc_one { zeroOb with kind := k } Sl0 Sl0 Sl0 Sl0 Sl0) ?_
  clear hK
  obtain ⟨w3, hw3⟩ : ∃ w3, w3 = (w2.alloc (.cells #[.int .i64 0, .string ⟨#[]⟩, .int .i64 0, .int .i64 0, .bool false, .slice none 0 0, .slice none 0 0, .slice none 0 0, .string ⟨#[]⟩, .int .i64 0, .int .i64 0, .slice none 0 0, .slice none 0 0, .string ⟨#[]⟩, .string ⟨#[]⟩, .int .i64 0, .string ⟨#[]⟩, .string ⟨#[]⟩, .string ⟨#[]⟩] 32)).setRow w2.heap.size #[.int .i64 k, .string ⟨#[]⟩, .int .i64 0, .int .i64 0, .bool false, .slice none 0 0, .slice none 0 0, .slice none 0 0, .string ⟨#[]⟩, .int .i64 0, .int .i64 0, .slice none 0 0, .slice none 0 0, .string ⟨#[]⟩, .string ⟨#[]⟩, .int .i64 0, .string ⟨#[]⟩, .string ⟨#[]⟩, .string ⟨#[]⟩] := ⟨_, rfl⟩
  have o3 := O3.out
  rw [← hw3] at o3 ⊢
  obtain ⟨ob, hob⟩ : ∃ ob, ob = w2.heap.size := ⟨_, rfl⟩
  obtain ⟨xb, hxb⟩ : ∃ xb, xb = w.heap.size := ⟨_, rfl⟩
  obtain ⟨rs, hrs⟩ : ∃ rs, rs = w.heap.size + 1 := ⟨_, rfl⟩
  rw [← hob, ← hxb] at o3
  rw [← hob, ← hrs, ← hxb]
  have hrx : rs = xb + 1 := by omega
  have OW0 := Lib.hid o3
  have HRX := Lib.hid hrx
  have HXB := Lib.hid hxb
  have ck := o3.ck
  clear o3 hw3 O3 hob hxb hrs hrx X1 G1 P1 HW R1 HC HS HL
--STOP1
  go_upto_if 9 with (fail)
  obtain ⟨st1, hst1⟩ : ∃ q, q = kindK (k, st0) := ⟨_, rfl⟩
  have EK := Lib.hid hst1.symm
  go_cut [] from 9 to 11 (fun w' => Hid (OS w rb xb ob s st1 { zeroOb with kind := k } Sl0 Sl0 Sl0 Sl0 Sl0 w'))
  case first =>
    have cx := OW0.out.cx
    by_cases hk : k = 0
    · have hkb : (k == 0) = true := by simpa using hk
      have e1 : st1 = failI 4 st0 := by rw [hst1]; exact if_pos hk
      have E1 := Lib.hid e1
      clear hst1 hk e1
      go_wp2_with (fail)
      refine (fail_any rb s st0 4 _ OW0.out.rd).mono ?_
      rintro e w4 ⟨rfl, r, g⟩
      have B := Lib.hid (OW0.out.call r g)
      clear r g
      go_wp2
      go_meet
      case rel => rw [E1.out]; exact B
    · have hkb : (k == 0) = false := by simpa using hk
      have e1 : st1 = st0 := by rw [hst1]; exact if_neg hk
      have E1 := Lib.hid e1
      clear hst1 hk e1
      go_wp2
      go_meet
      case rel => rw [E1.out]; exact OW0
  case rest =>
  have A3 := hcut
  have cx := A3.out.cx
  clear hcut hst1 ck OW0
  have hc1 := text_any rb s st1 _ A3.out.rd
  obtain ⟨⟨x1, q1⟩, he1⟩ : ∃ y, y = textI s st1 := ⟨_, rfl⟩
  rw [← he1] at hc1
  have E1 := Lib.hid he1.symm
  have HC1 := Lib.hid hc1
  clear hc1 he1
  go_wp2_with (fail)
  refine HC1.out.mono ?_
  rintro e wa1 ⟨rfl, r, g⟩
  have B1 := Lib.hid (A3.out.call r g)
  have fz := B1.out.fz 1
  have cz : wa1.cell? ⟨ob, 1, none⟩ = some (.string ⟨#[]⟩) := (B1.out.cl 1).trans rfl
  clear r g cx
  go_upto_region 5 with (fail)
  have a := B1.out.set 1 (.string x1) (Ob.mk k x1 0 0 false [] [] [] ⟨#[]⟩ 0 0 [] [] ⟨#[]⟩ ⟨#[]⟩ 0 ⟨#[]⟩ ⟨#[]⟩ ⟨#[]⟩) Sl0 Sl0 Sl0 Sl0 Sl0 rfl ⟨B1.out.own.fr, B1.out.own.lr, B1.out.own.cr, B1.out.own.pr, B1.out.own.ir⟩
  obtain ⟨wb1, hwb⟩ : ∃ y, y = wa1.setCell ⟨ob, 1, none⟩ (.string x1) := ⟨_, rfl⟩
  rw [← hwb] at a ⊢
  have A1 := Lib.hid a
  have cx := A1.out.cx
  clear a hwb fz cz
  obtain ⟨⟨x2, q2⟩, he2⟩ : ∃ y, y = numI s q1 := ⟨_, rfl⟩
  obtain ⟨⟨x3, q3⟩, he3⟩ : ∃ y, y = numI s q2 := ⟨_, rfl⟩
  have hca := fun V hV => number_any rb s q1 V hV
  rw [← he2] at hca
  have hcb := fun V hV => number_any rb s q2 V hV
  rw [← he3] at hcb
  have HCA := Lib.hid hca
  have HCB := Lib.hid hcb
  have E2 := Lib.hid he2.symm
  have E3 := Lib.hid he3.symm
  clear hca hcb he2 he3
  go_cut [] from 15 to 20 (fun w' => Hid (OS w rb xb ob s q3 (Ob.mk k x1 x2 x3 false [] [] [] ⟨#[]⟩ 0 0 [] [] ⟨#[]⟩ ⟨#[]⟩ 0 ⟨#[]⟩ ⟨#[]⟩ ⟨#[]⟩) Sl0 Sl0 Sl0 Sl0 Sl0 w'))
  case first =>
    go_region_with (first
      | (go_at_call 75; refine (HCB.out _ B1.out.rd).mono ?_; rintro e w2 ⟨rfl, h2, g2⟩; have B2 := Lib.hid (B1.out.call h2 g2); have k0 := B2.out.fz 2; have k1 := B2.out.fz 3; have k2 : w2.cell? ⟨ob, 2, none⟩ = some (.int .i64 0) := (B2.out.cl 2).trans rfl; have k3 : w2.cell? ⟨ob, 3, none⟩ = some (.int .i64 0) := (B2.out.cl 3).trans rfl; clear h2 g2)
      | (go_at_call 75; refine (HCA.out _ A1.out.drew.rd).mono ?_; rintro e w1 ⟨rfl, h1, g1⟩; have B1 := Lib.hid (A1.out.drew.call h1 g1); have cx1 := B1.out.cx; clear h1 g1))
    all_goals
      go_wp2
      go_meet
      case rel => exact Lib.hid ((B2.out.set 2 (.int .i64 x2) (Ob.mk k x1 x2 0 false [] [] [] ⟨#[]⟩ 0 0 [] [] ⟨#[]⟩ ⟨#[]⟩ 0 ⟨#[]⟩ ⟨#[]⟩ ⟨#[]⟩) Sl0 Sl0 Sl0 Sl0 Sl0 rfl ⟨B2.out.own.fr, B2.out.own.lr, B2.out.own.cr, B2.out.own.pr, B2.out.own.ir⟩).set 3 (.int .i64 x3) (Ob.mk k x1 x2 x3 false [] [] [] ⟨#[]⟩ 0 0 [] [] ⟨#[]⟩ ⟨#[]⟩ 0 ⟨#[]⟩ ⟨#[]⟩ ⟨#[]⟩) Sl0 Sl0 Sl0 Sl0 Sl0 rfl (ObOwn.grown (⟨B2.out.own.fr, B2.out.own.lr, B2.out.own.cr, B2.out.own.pr, B2.out.own.ir⟩ : ObOwn w2 (ob + 1) (Ob.mk k x1 x2 x3 false [] [] [] ⟨#[]⟩ 0 0 [] [] ⟨#[]⟩ ⟨#[]⟩ 0 ⟨#[]⟩ ⟨#[]⟩ ⟨#[]⟩) Sl0 Sl0 Sl0 Sl0 Sl0) (grown_set _ _ _ _) (Nat.lt_succ_self _)))
  case rest =>
  have A3 := hcut
  have cx := A3.out.cx
  clear hcut HCA HCB
  have hc4 := small_any rb s q3 1 _ A3.out.rd
  obtain ⟨⟨x4, q4⟩, he4⟩ : ∃ y, y = smallI s 1 q3 := ⟨_, rfl⟩
  rw [← he4] at hc4
  have E4 := Lib.hid he4.symm
  have HC4 := Lib.hid hc4
  clear hc4 he4
  go_wp2_with (fail)
  refine HC4.out.mono ?_
  rintro e wa4 ⟨rfl, r, g⟩
  have B4 := Lib.hid (A3.out.call r g)
  have fz := B4.out.fz 4
  have cz : wa4.cell? ⟨ob, 4, none⟩ = some (.bool false) := (B4.out.cl 4).trans rfl
  clear r g cx
  go_upto_region 7 with (fail)
  have a := B4.out.set 4 (.bool (x4 == 1)) (Ob.mk k x1 x2 x3 (x4 == 1) [] [] [] ⟨#[]⟩ 0 0 [] [] ⟨#[]⟩ ⟨#[]⟩ 0 ⟨#[]⟩ ⟨#[]⟩ ⟨#[]⟩) Sl0 Sl0 Sl0 Sl0 Sl0 rfl ⟨B4.out.own.fr, B4.out.own.lr, B4.out.own.cr, B4.out.own.pr, B4.out.own.ir⟩
  obtain ⟨wb4, hwb⟩ : ∃ y, y = wa4.setCell ⟨ob, 4, none⟩ (.bool (x4 == 1)) := ⟨_, rfl⟩
  rw [← hwb] at a ⊢
  have A4 := Lib.hid a
  have cx := A4.out.cx
  clear a hwb fz cz
  have hc5 := readstr_any (ob + 1) rb s q4 4 _ A4.out.rd (by have := A4.out.lt; omega) (Nat.succ_le_of_lt A4.out.ob_lt)
  obtain ⟨⟨x5, q5⟩, he5⟩ : ∃ y, y = listI (textI s) s 4 q4 := ⟨_, rfl⟩
  rw [← he5] at hc5
  have E5 := Lib.hid he5.symm
  have HC5 := Lib.hid hc5
  clear hc5 he5
  go_wp2_with (fail)
  refine HC5.out.mono ?_
  rintro e wa5 ⟨a5, c5, rfl, ow, r, g⟩
  have B5 := Lib.hid (A4.out.call r g)
  have OW5 := Lib.hid ow
  have fz := B5.out.fz 5
  have cz : wa5.cell? ⟨ob, 5, none⟩ = some (.slice none 0 0) := (B5.out.cl 5).trans rfl
  clear r g cx ow
  go_upto_region 8 with (fail)
  have a := B5.out.set 5 (.slice a5 x5.length c5) (Ob.mk k x1 x2 x3 (x4 == 1) x5 [] [] ⟨#[]⟩ 0 0 [] [] ⟨#[]⟩ ⟨#[]⟩ 0 ⟨#[]⟩ ⟨#[]⟩ ⟨#[]⟩) (Sl.mk a5 c5) Sl0 Sl0 Sl0 Sl0 rfl ⟨OW5.out, B5.out.own.lr, B5.out.own.cr, B5.out.own.pr, B5.out.own.ir⟩
  obtain ⟨wb5, hwb⟩ : ∃ y, y = wa5.setCell ⟨ob, 5, none⟩ (.slice a5 x5.length c5) := ⟨_, rfl⟩
  rw [← hwb] at a ⊢
  have A5 := Lib.hid a
  have cx := A5.out.cx
  clear a hwb fz cz
  have hc6 := readpair_any (ob + 1) rb xb s q5 16 _ A5.out.rd A5.out.box (by have := A5.out.lt; omega) (Nat.succ_le_of_lt A5.out.ob_lt)
  obtain ⟨⟨x6, q6⟩, he6⟩ : ∃ y, y = listI (pairI s) s 16 q5 := ⟨_, rfl⟩
  rw [← he6] at hc6
  have E6 := Lib.hid he6.symm
  have HC6 := Lib.hid hc6
  clear hc6 he6
  go_wp2_with (fail)
  refine HC6.out.mono ?_
  rintro e wa6 ⟨a6, c6, rfl, ow, r, g⟩
  have B6 := Lib.hid (A5.out.call r g)
  have OW6 := Lib.hid ow
  have fz := B6.out.fz 6
  have cz : wa6.cell? ⟨ob, 6, none⟩ = some (.slice none 0 0) := (B6.out.cl 6).trans rfl
  clear r g cx ow
  go_upto_region 9 with (fail)
  have a := B6.out.set 6 (.slice a6 x6.length c6) (Ob.mk k x1 x2 x3 (x4 == 1) x5 x6 [] ⟨#[]⟩ 0 0 [] [] ⟨#[]⟩ ⟨#[]⟩ 0 ⟨#[]⟩ ⟨#[]⟩ ⟨#[]⟩) (Sl.mk a5 c5) (Sl.mk a6 c6) Sl0 Sl0 Sl0 rfl ⟨B6.out.own.fr, OW6.out, B6.out.own.cr, B6.out.own.pr, B6.out.own.ir⟩
  obtain ⟨wb6, hwb⟩ : ∃ y, y = wa6.setCell ⟨ob, 6, none⟩ (.slice a6 x6.length c6) := ⟨_, rfl⟩
  rw [← hwb] at a ⊢
  have A6 := Lib.hid a
  have cx := A6.out.cx
  clear a hwb fz cz
  have ck := A6.out.ck
  go_upto_region 10 with (fail)
  by_cases hk1 : k = 1
  · have HK := Lib.hid hk1
    have kb1 : (k == 1) = true := by simpa using hk1
    clear hk1
    have hc7 := readstr_any (ob + 1) rb s q6 8 _ A6.out.rd (by have := A6.out.lt; omega) (Nat.succ_le_of_lt A6.out.ob_lt)
    obtain ⟨⟨x7, q7⟩, he7⟩ : ∃ y, y = listI (textI s) s 8 q6 := ⟨_, rfl⟩
    rw [← he7] at hc7
    have E7 := Lib.hid he7.symm
    have HC7 := Lib.hid hc7
    clear hc7 he7
    go_wp2_with (fail)
    refine HC7.out.mono ?_
    rintro e wa7 ⟨a7, c7, rfl, ow, r, g⟩
    have B7 := Lib.hid (A6.out.call r g)
    have OW7 := Lib.hid ow
    have fz := B7.out.fz 7
    have cz : wa7.cell? ⟨ob, 7, none⟩ = some (.slice none 0 0) := (B7.out.cl 7).trans rfl
    clear r g cx ow
    go_upto_region 12 with (fail)
    have a := B7.out.set 7 (.slice a7 x7.length c7) (Ob.mk k x1 x2 x3 (x4 == 1) x5 x6 x7 ⟨#[]⟩ 0 0 [] [] ⟨#[]⟩ ⟨#[]⟩ 0 ⟨#[]⟩ ⟨#[]⟩ ⟨#[]⟩) (Sl.mk a5 c5) (Sl.mk a6 c6) (Sl.mk a7 c7) Sl0 Sl0 rfl ⟨B7.out.own.fr, B7.out.own.lr, OW7.out, B7.out.own.pr, B7.out.own.ir⟩
    obtain ⟨wb7, hwb⟩ : ∃ y, y = wa7.setCell ⟨ob, 7, none⟩ (.slice a7 x7.length c7) := ⟨_, rfl⟩
    rw [← hwb] at a ⊢
    have A7 := Lib.hid a
    have cx := A7.out.cx
    clear a hwb fz cz
    have hc8 := text_any rb s q7 _ A7.out.rd
    obtain ⟨⟨x8, q8⟩, he8⟩ : ∃ y, y = textI s q7 := ⟨_, rfl⟩
    rw [← he8] at hc8
    have E8 := Lib.hid he8.symm
    have HC8 := Lib.hid hc8
    clear hc8 he8
    go_wp2_with (fail)
    refine HC8.out.mono ?_
    rintro e wa8 ⟨rfl, r, g⟩
    have B8 := Lib.hid (A7.out.call r g)
    have fz := B8.out.fz 8
    have cz : wa8.cell? ⟨ob, 8, none⟩ = some (.string ⟨#[]⟩) := (B8.out.cl 8).trans rfl
    clear r g cx
    go_upto_region 23 with (fail)
    have a := B8.out.set 8 (.string x8) (Ob.mk k x1 x2 x3 (x4 == 1) x5 x6 x7 x8 0 0 [] [] ⟨#[]⟩ ⟨#[]⟩ 0 ⟨#[]⟩ ⟨#[]⟩ ⟨#[]⟩) (Sl.mk a5 c5) (Sl.mk a6 c6) (Sl.mk a7 c7) Sl0 Sl0 rfl ⟨B8.out.own.fr, B8.out.own.lr, B8.out.own.cr, B8.out.own.pr, B8.out.own.ir⟩
    obtain ⟨wb8, hwb⟩ : ∃ y, y = wa8.setCell ⟨ob, 8, none⟩ (.string x8) := ⟨_, rfl⟩
    rw [← hwb] at a ⊢
    have A8 := Lib.hid a
    have cx := A8.out.cx
    clear a hwb fz cz
    clear cx
    have hob : obI s st = ((Ob.mk k x1 x2 x3 (x4 == 1) x5 x6 x7 x8 0 0 [] [] ⟨#[]⟩ ⟨#[]⟩ 0 ⟨#[]⟩ ⟨#[]⟩ ⟨#[]⟩), q8) := by
      have HT : tailI s k = tail1I s := by rw [HK.out]; unfold tailI; exact if_pos rfl
      simp only [obI, mapI, headI, bindI, kindI, truthI, tail1I, HT, E.out, EK.out, E1.out, E2.out, E3.out, E4.out, E5.out, E6.out, E7.out, E8.out]
      rfl
    have HOB := Lib.hid hob
    clear hob
    obtain ⟨cs, hcs, hres⟩ := A8.out.res
    rw [← HRX.out] at hres
    have RES := Lib.hid hres
    have CS := Lib.hid hcs
    clear hres hcs
    go_wp2_with (first
      | (refine wpList_load_row rfl 32 (.tmp 3) rfl _ rfl 32 _ (0, 0) _ A8.out.is Try.underlying32 rfl size32 ?_)
      | (refine wpList_store_row rfl 32 (.tmp 2) (.tmp 85) rfl _ _ rfl rfl 32 _ RES.out size32 (CS.out.trans rfl) (oc_one (Ob.mk k x1 x2 x3 (x4 == 1) x5 x6 x7 x8 0 0 [] [] ⟨#[]⟩ ⟨#[]⟩ 0 ⟨#[]⟩ ⟨#[]⟩ ⟨#[]⟩) (Sl.mk a5 c5) (Sl.mk a6 c6) (Sl.mk a7 c7) Sl0 Sl0) ?_))
    have rk := setRow_heap _ rs _ (oc (Ob.mk k x1 x2 x3 (x4 == 1) x5 x6 x7 x8 0 0 [] [] ⟨#[]⟩ ⟨#[]⟩ 0 ⟨#[]⟩ ⟨#[]⟩ ⟨#[]⟩) (Sl.mk a5 c5) (Sl.mk a6 c6) (Sl.mk a7 c7) Sl0 Sl0) _ _ RES.out
    have RK := Lib.hid rk
    clear rk
    refine bodyPost_ret (results_cell_row rfl _ _ rs 32 _ (0, 0) _ rfl RK.out Try.underlying32 rfl size32) rfl ⟨(Sl.mk a5 c5), (Sl.mk a6 c6), (Sl.mk a7 c7), Sl0, Sl0, ?_, ?_, ?_, ?_⟩
    · rw [HOB.out]
    · rw [HOB.out]; exact (ObOwn.row A8.out.own (by have := A8.out.lt; have := HRX.out; omega)).mono (by have := A8.out.lt; omega)
    · rw [HOB.out]; exact A8.out.rd.row (by have := A8.out.lt; have := HRX.out; omega)
    · exact A8.out.gr.row (by have := A8.out.lt; have := HRX.out; omega)
  · have N1 := Lib.hid hk1
    have kb1 : (k == 1) = false := by simpa using hk1
    clear hk1
    by_cases hk2 : k = 2
    · have HK := Lib.hid hk2
      have kb2 : (k == 2) = true := by simpa using hk2
      clear hk2
      obtain ⟨⟨x7, q7⟩, he7⟩ : ∃ y, y = smallI s 255 q6 := ⟨_, rfl⟩
      obtain ⟨⟨x8, q8⟩, he8⟩ : ∃ y, y = smallI s 255 q7 := ⟨_, rfl⟩
      have hca := fun V hV => small_any rb s q6 255 V hV
      rw [← he7] at hca
      have hcb := fun V hV => small_any rb s q7 255 V hV
      rw [← he8] at hcb
      have HCA := Lib.hid hca
      have HCB := Lib.hid hcb
      have E7 := Lib.hid he7.symm
      have E8 := Lib.hid he8.symm
      clear hca hcb he7 he8
      go_upto_region 14 with (fail)
      go_cut [] from 48 to 53 (fun w' => Hid (OS w rb xb ob s q8 (Ob.mk k x1 x2 x3 (x4 == 1) x5 x6 [] ⟨#[]⟩ x7 x8 [] [] ⟨#[]⟩ ⟨#[]⟩ 0 ⟨#[]⟩ ⟨#[]⟩ ⟨#[]⟩) (Sl.mk a5 c5) (Sl.mk a6 c6) Sl0 Sl0 Sl0 w'))
      case first =>
        go_region_with (first
          | (go_at_call 72; refine (HCB.out _ B1.out.rd).mono ?_; rintro e w2 ⟨rfl, h2, g2⟩; have B2 := Lib.hid (B1.out.call h2 g2); have k0 := B2.out.fz 9; have k1 := B2.out.fz 10; have k2 : w2.cell? ⟨ob, 9, none⟩ = some (.int .i64 0) := (B2.out.cl 9).trans rfl; have k3 : w2.cell? ⟨ob, 10, none⟩ = some (.int .i64 0) := (B2.out.cl 10).trans rfl; clear h2 g2)
          | (go_at_call 72; refine (HCA.out _ A6.out.drew.rd).mono ?_; rintro e w1 ⟨rfl, h1, g1⟩; have B1 := Lib.hid (A6.out.drew.call h1 g1); have cx1 := B1.out.cx; clear h1 g1))
        all_goals
          go_wp2
          go_meet
          case rel => exact Lib.hid ((B2.out.set 9 (.int .i64 x7) (Ob.mk k x1 x2 x3 (x4 == 1) x5 x6 [] ⟨#[]⟩ x7 0 [] [] ⟨#[]⟩ ⟨#[]⟩ 0 ⟨#[]⟩ ⟨#[]⟩ ⟨#[]⟩) (Sl.mk a5 c5) (Sl.mk a6 c6) Sl0 Sl0 Sl0 rfl ⟨B2.out.own.fr, B2.out.own.lr, B2.out.own.cr, B2.out.own.pr, B2.out.own.ir⟩).set 10 (.int .i64 x8) (Ob.mk k x1 x2 x3 (x4 == 1) x5 x6 [] ⟨#[]⟩ x7 x8 [] [] ⟨#[]⟩ ⟨#[]⟩ 0 ⟨#[]⟩ ⟨#[]⟩ ⟨#[]⟩) (Sl.mk a5 c5) (Sl.mk a6 c6) Sl0 Sl0 Sl0 rfl (ObOwn.grown (⟨B2.out.own.fr, B2.out.own.lr, B2.out.own.cr, B2.out.own.pr, B2.out.own.ir⟩ : ObOwn w2 (ob + 1) (Ob.mk k x1 x2 x3 (x4 == 1) x5 x6 [] ⟨#[]⟩ x7 x8 [] [] ⟨#[]⟩ ⟨#[]⟩ 0 ⟨#[]⟩ ⟨#[]⟩ ⟨#[]⟩) (Sl.mk a5 c5) (Sl.mk a6 c6) Sl0 Sl0 Sl0) (grown_set _ _ _ _) (Nat.lt_succ_self _)))
      case rest =>
      have A8 := hcut
      have cx := A8.out.cx
      clear hcut HCA HCB
      have hc9 := readint_any (ob + 1) rb xb s q8 8 _ A8.out.rd A8.out.box (by have := A8.out.lt; omega) (Nat.succ_le_of_lt A8.out.ob_lt)
      obtain ⟨⟨x9, q9⟩, he9⟩ : ∃ y, y = listI (smallI s 255) s 8 q8 := ⟨_, rfl⟩
      rw [← he9] at hc9
      have E9 := Lib.hid he9.symm
      have HC9 := Lib.hid hc9
      clear hc9 he9
      go_wp2_with (fail)
      refine HC9.out.mono ?_
      rintro e wa9 ⟨a9, c9, rfl, ow, r, g⟩
      have B9 := Lib.hid (A8.out.call r g)
      have OW9 := Lib.hid ow
      have fz := B9.out.fz 11
      have cz : wa9.cell? ⟨ob, 11, none⟩ = some (.slice none 0 0) := (B9.out.cl 11).trans rfl
      clear r g cx ow
      go_upto_region 16 with (fail)
      have a := B9.out.set 11 (.slice a9 x9.length c9) (Ob.mk k x1 x2 x3 (x4 == 1) x5 x6 [] ⟨#[]⟩ x7 x8 x9 [] ⟨#[]⟩ ⟨#[]⟩ 0 ⟨#[]⟩ ⟨#[]⟩ ⟨#[]⟩) (Sl.mk a5 c5) (Sl.mk a6 c6) Sl0 (Sl.mk a9 c9) Sl0 rfl ⟨B9.out.own.fr, B9.out.own.lr, B9.out.own.cr, OW9.out, B9.out.own.ir⟩
      obtain ⟨wb9, hwb⟩ : ∃ y, y = wa9.setCell ⟨ob, 11, none⟩ (.slice a9 x9.length c9) := ⟨_, rfl⟩
      rw [← hwb] at a ⊢
      have A9 := Lib.hid a
      have cx := A9.out.cx
      clear a hwb fz cz
      have hc10 := readstr_any (ob + 1) rb s q9 8 _ A9.out.rd (by have := A9.out.lt; omega) (Nat.succ_le_of_lt A9.out.ob_lt)
      obtain ⟨⟨x10, q10⟩, he10⟩ : ∃ y, y = listI (textI s) s 8 q9 := ⟨_, rfl⟩
      rw [← he10] at hc10
      have E10 := Lib.hid he10.symm
      have HC10 := Lib.hid hc10
      clear hc10 he10
      go_wp2_with (fail)
      refine HC10.out.mono ?_
      rintro e wa10 ⟨a10, c10, rfl, ow, r, g⟩
      have B10 := Lib.hid (A9.out.call r g)
      have OW10 := Lib.hid ow
      have fz := B10.out.fz 12
      have cz : wa10.cell? ⟨ob, 12, none⟩ = some (.slice none 0 0) := (B10.out.cl 12).trans rfl
      clear r g cx ow
      go_upto_region 23 with (fail)
      have a := B10.out.set 12 (.slice a10 x10.length c10) (Ob.mk k x1 x2 x3 (x4 == 1) x5 x6 [] ⟨#[]⟩ x7 x8 x9 x10 ⟨#[]⟩ ⟨#[]⟩ 0 ⟨#[]⟩ ⟨#[]⟩ ⟨#[]⟩) (Sl.mk a5 c5) (Sl.mk a6 c6) Sl0 (Sl.mk a9 c9) (Sl.mk a10 c10) rfl ⟨B10.out.own.fr, B10.out.own.lr, B10.out.own.cr, B10.out.own.pr, OW10.out⟩
      obtain ⟨wb10, hwb⟩ : ∃ y, y = wa10.setCell ⟨ob, 12, none⟩ (.slice a10 x10.length c10) := ⟨_, rfl⟩
      rw [← hwb] at a ⊢
      have A10 := Lib.hid a
      have cx := A10.out.cx
      clear a hwb fz cz
      clear cx
      have hob : obI s st = ((Ob.mk k x1 x2 x3 (x4 == 1) x5 x6 [] ⟨#[]⟩ x7 x8 x9 x10 ⟨#[]⟩ ⟨#[]⟩ 0 ⟨#[]⟩ ⟨#[]⟩ ⟨#[]⟩), q10) := by
        have HT : tailI s k = tail2I s := by rw [HK.out]; unfold tailI; rw [if_neg (by decide), if_pos rfl]
        simp only [obI, mapI, headI, bindI, kindI, truthI, tail2I, HT, E.out, EK.out, E1.out, E2.out, E3.out, E4.out, E5.out, E6.out, E7.out, E8.out, E9.out, E10.out]
        rfl
      have HOB := Lib.hid hob
      clear hob
      obtain ⟨cs, hcs, hres⟩ := A10.out.res
      rw [← HRX.out] at hres
      have RES := Lib.hid hres
      have CS := Lib.hid hcs
      clear hres hcs
      go_wp2_with (first
        | (refine wpList_load_row rfl 32 (.tmp 3) rfl _ rfl 32 _ (0, 0) _ A10.out.is Try.underlying32 rfl size32 ?_)
        | (refine wpList_store_row rfl 32 (.tmp 2) (.tmp 85) rfl _ _ rfl rfl 32 _ RES.out size32 (CS.out.trans rfl) (oc_one (Ob.mk k x1 x2 x3 (x4 == 1) x5 x6 [] ⟨#[]⟩ x7 x8 x9 x10 ⟨#[]⟩ ⟨#[]⟩ 0 ⟨#[]⟩ ⟨#[]⟩ ⟨#[]⟩) (Sl.mk a5 c5) (Sl.mk a6 c6) Sl0 (Sl.mk a9 c9) (Sl.mk a10 c10)) ?_))
      have rk := setRow_heap _ rs _ (oc (Ob.mk k x1 x2 x3 (x4 == 1) x5 x6 [] ⟨#[]⟩ x7 x8 x9 x10 ⟨#[]⟩ ⟨#[]⟩ 0 ⟨#[]⟩ ⟨#[]⟩ ⟨#[]⟩) (Sl.mk a5 c5) (Sl.mk a6 c6) Sl0 (Sl.mk a9 c9) (Sl.mk a10 c10)) _ _ RES.out
      have RK := Lib.hid rk
      clear rk
      refine bodyPost_ret (results_cell_row rfl _ _ rs 32 _ (0, 0) _ rfl RK.out Try.underlying32 rfl size32) rfl ⟨(Sl.mk a5 c5), (Sl.mk a6 c6), Sl0, (Sl.mk a9 c9), (Sl.mk a10 c10), ?_, ?_, ?_, ?_⟩
      · rw [HOB.out]
      · rw [HOB.out]; exact (ObOwn.row A10.out.own (by have := A10.out.lt; have := HRX.out; omega)).mono (by have := A10.out.lt; omega)
      · rw [HOB.out]; exact A10.out.rd.row (by have := A10.out.lt; have := HRX.out; omega)
      · exact A10.out.gr.row (by have := A10.out.lt; have := HRX.out; omega)
    · have N2 := Lib.hid hk2
      have kb2 : (k == 2) = false := by simpa using hk2
      clear hk2
      by_cases hk3 : k = 3
      · have HK := Lib.hid hk3
        have kb3 : (k == 3) = true := by simpa using hk3
        clear hk3
        obtain ⟨⟨x7, q7⟩, he7⟩ : ∃ y, y = textI s q6 := ⟨_, rfl⟩
        obtain ⟨⟨x8, q8⟩, he8⟩ : ∃ y, y = textI s q7 := ⟨_, rfl⟩
        have hca := fun V hV => text_any rb s q6 V hV
        rw [← he7] at hca
        have hcb := fun V hV => text_any rb s q7 V hV
        rw [← he8] at hcb
        have HCA := Lib.hid hca
        have HCB := Lib.hid hcb
        have E7 := Lib.hid he7.symm
        have E8 := Lib.hid he8.symm
        clear hca hcb he7 he8
        go_upto_region 18 with (fail)
        go_cut [] from 65 to 70 (fun w' => Hid (OS w rb xb ob s q8 (Ob.mk k x1 x2 x3 (x4 == 1) x5 x6 [] ⟨#[]⟩ 0 0 [] [] x7 x8 0 ⟨#[]⟩ ⟨#[]⟩ ⟨#[]⟩) (Sl.mk a5 c5) (Sl.mk a6 c6) Sl0 Sl0 Sl0 w'))
        case first =>
          go_region_with (first
            | (go_at_call 74; refine (HCB.out _ B1.out.rd).mono ?_; rintro e w2 ⟨rfl, h2, g2⟩; have B2 := Lib.hid (B1.out.call h2 g2); have k0 := B2.out.fz 13; have k1 := B2.out.fz 14; have k2 : w2.cell? ⟨ob, 13, none⟩ = some (.string ⟨#[]⟩) := (B2.out.cl 13).trans rfl; have k3 : w2.cell? ⟨ob, 14, none⟩ = some (.string ⟨#[]⟩) := (B2.out.cl 14).trans rfl; clear h2 g2)
            | (go_at_call 74; refine (HCA.out _ A6.out.drew.rd).mono ?_; rintro e w1 ⟨rfl, h1, g1⟩; have B1 := Lib.hid (A6.out.drew.call h1 g1); have cx1 := B1.out.cx; clear h1 g1))
          all_goals
            go_wp2
            go_meet
            case rel => exact Lib.hid ((B2.out.set 13 (.string x7) (Ob.mk k x1 x2 x3 (x4 == 1) x5 x6 [] ⟨#[]⟩ 0 0 [] [] x7 ⟨#[]⟩ 0 ⟨#[]⟩ ⟨#[]⟩ ⟨#[]⟩) (Sl.mk a5 c5) (Sl.mk a6 c6) Sl0 Sl0 Sl0 rfl ⟨B2.out.own.fr, B2.out.own.lr, B2.out.own.cr, B2.out.own.pr, B2.out.own.ir⟩).set 14 (.string x8) (Ob.mk k x1 x2 x3 (x4 == 1) x5 x6 [] ⟨#[]⟩ 0 0 [] [] x7 x8 0 ⟨#[]⟩ ⟨#[]⟩ ⟨#[]⟩) (Sl.mk a5 c5) (Sl.mk a6 c6) Sl0 Sl0 Sl0 rfl (ObOwn.grown (⟨B2.out.own.fr, B2.out.own.lr, B2.out.own.cr, B2.out.own.pr, B2.out.own.ir⟩ : ObOwn w2 (ob + 1) (Ob.mk k x1 x2 x3 (x4 == 1) x5 x6 [] ⟨#[]⟩ 0 0 [] [] x7 x8 0 ⟨#[]⟩ ⟨#[]⟩ ⟨#[]⟩) (Sl.mk a5 c5) (Sl.mk a6 c6) Sl0 Sl0 Sl0) (grown_set _ _ _ _) (Nat.lt_succ_self _)))
        case rest =>
        have A8 := hcut
        have cx := A8.out.cx
        clear hcut HCA HCB
        have hc9 := small_any rb s q8 255 _ A8.out.rd
        obtain ⟨⟨x9, q9⟩, he9⟩ : ∃ y, y = smallI s 255 q8 := ⟨_, rfl⟩
        rw [← he9] at hc9
        have E9 := Lib.hid he9.symm
        have HC9 := Lib.hid hc9
        clear hc9 he9
        go_wp2_with (fail)
        refine HC9.out.mono ?_
        rintro e wa9 ⟨rfl, r, g⟩
        have B9 := Lib.hid (A8.out.call r g)
        have fz := B9.out.fz 15
        have cz : wa9.cell? ⟨ob, 15, none⟩ = some (.int .i64 0) := (B9.out.cl 15).trans rfl
        clear r g cx
        go_upto_region 20 with (fail)
        have a := B9.out.set 15 (.int .i64 x9) (Ob.mk k x1 x2 x3 (x4 == 1) x5 x6 [] ⟨#[]⟩ 0 0 [] [] x7 x8 x9 ⟨#[]⟩ ⟨#[]⟩ ⟨#[]⟩) (Sl.mk a5 c5) (Sl.mk a6 c6) Sl0 Sl0 Sl0 rfl ⟨B9.out.own.fr, B9.out.own.lr, B9.out.own.cr, B9.out.own.pr, B9.out.own.ir⟩
        obtain ⟨wb9, hwb⟩ : ∃ y, y = wa9.setCell ⟨ob, 15, none⟩ (.int .i64 x9) := ⟨_, rfl⟩
        rw [← hwb] at a ⊢
        have A9 := Lib.hid a
        have cx := A9.out.cx
        clear a hwb fz cz
        have hc10 := text_any rb s q9 _ A9.out.rd
        obtain ⟨⟨x10, q10⟩, he10⟩ : ∃ y, y = textI s q9 := ⟨_, rfl⟩
        rw [← he10] at hc10
        have E10 := Lib.hid he10.symm
        have HC10 := Lib.hid hc10
        clear hc10 he10
        go_wp2_with (fail)
        refine HC10.out.mono ?_
        rintro e wa10 ⟨rfl, r, g⟩
        have B10 := Lib.hid (A9.out.call r g)
        have fz := B10.out.fz 16
        have cz : wa10.cell? ⟨ob, 16, none⟩ = some (.string ⟨#[]⟩) := (B10.out.cl 16).trans rfl
        clear r g cx
        go_upto_region 23 with (fail)
        have a := B10.out.set 16 (.string x10) (Ob.mk k x1 x2 x3 (x4 == 1) x5 x6 [] ⟨#[]⟩ 0 0 [] [] x7 x8 x9 x10 ⟨#[]⟩ ⟨#[]⟩) (Sl.mk a5 c5) (Sl.mk a6 c6) Sl0 Sl0 Sl0 rfl ⟨B10.out.own.fr, B10.out.own.lr, B10.out.own.cr, B10.out.own.pr, B10.out.own.ir⟩
        obtain ⟨wb10, hwb⟩ : ∃ y, y = wa10.setCell ⟨ob, 16, none⟩ (.string x10) := ⟨_, rfl⟩
        rw [← hwb] at a ⊢
        have A10 := Lib.hid a
        have cx := A10.out.cx
        clear a hwb fz cz
        clear cx
        have hob : obI s st = ((Ob.mk k x1 x2 x3 (x4 == 1) x5 x6 [] ⟨#[]⟩ 0 0 [] [] x7 x8 x9 x10 ⟨#[]⟩ ⟨#[]⟩), q10) := by
          have HT : tailI s k = tail3I s := by rw [HK.out]; unfold tailI; rw [if_neg (by decide), if_neg (by decide), if_pos rfl]
          simp only [obI, mapI, headI, bindI, kindI, truthI, tail3I, HT, E.out, EK.out, E1.out, E2.out, E3.out, E4.out, E5.out, E6.out, E7.out, E8.out, E9.out, E10.out]
          rfl
        have HOB := Lib.hid hob
        clear hob
        obtain ⟨cs, hcs, hres⟩ := A10.out.res
        rw [← HRX.out] at hres
        have RES := Lib.hid hres
        have CS := Lib.hid hcs
        clear hres hcs
        go_wp2_with (first
          | (refine wpList_load_row rfl 32 (.tmp 3) rfl _ rfl 32 _ (0, 0) _ A10.out.is Try.underlying32 rfl size32 ?_)
          | (refine wpList_store_row rfl 32 (.tmp 2) (.tmp 85) rfl _ _ rfl rfl 32 _ RES.out size32 (CS.out.trans rfl) (oc_one (Ob.mk k x1 x2 x3 (x4 == 1) x5 x6 [] ⟨#[]⟩ 0 0 [] [] x7 x8 x9 x10 ⟨#[]⟩ ⟨#[]⟩) (Sl.mk a5 c5) (Sl.mk a6 c6) Sl0 Sl0 Sl0) ?_))
        have rk := setRow_heap _ rs _ (oc (Ob.mk k x1 x2 x3 (x4 == 1) x5 x6 [] ⟨#[]⟩ 0 0 [] [] x7 x8 x9 x10 ⟨#[]⟩ ⟨#[]⟩) (Sl.mk a5 c5) (Sl.mk a6 c6) Sl0 Sl0 Sl0) _ _ RES.out
        have RK := Lib.hid rk
        clear rk
        refine bodyPost_ret (results_cell_row rfl _ _ rs 32 _ (0, 0) _ rfl RK.out Try.underlying32 rfl size32) rfl ⟨(Sl.mk a5 c5), (Sl.mk a6 c6), Sl0, Sl0, Sl0, ?_, ?_, ?_, ?_⟩
        · rw [HOB.out]
        · rw [HOB.out]; exact (ObOwn.row A10.out.own (by have := A10.out.lt; have := HRX.out; omega)).mono (by have := A10.out.lt; omega)
        · rw [HOB.out]; exact A10.out.rd.row (by have := A10.out.lt; have := HRX.out; omega)
        · exact A10.out.gr.row (by have := A10.out.lt; have := HRX.out; omega)
      · have N3 := Lib.hid hk3
        have kb3 : (k == 3) = false := by simpa using hk3
        clear hk3
        by_cases hk4 : k = 4
        · have HK := Lib.hid hk4
          have kb4 : (k == 4) = true := by simpa using hk4
          clear hk4
          obtain ⟨⟨x7, q7⟩, he7⟩ : ∃ y, y = textI s q6 := ⟨_, rfl⟩
          obtain ⟨⟨x8, q8⟩, he8⟩ : ∃ y, y = textI s q7 := ⟨_, rfl⟩
          have hca := fun V hV => text_any rb s q6 V hV
          rw [← he7] at hca
          have hcb := fun V hV => text_any rb s q7 V hV
          rw [← he8] at hcb
          have HCA := Lib.hid hca
          have HCB := Lib.hid hcb
          have E7 := Lib.hid he7.symm
          have E8 := Lib.hid he8.symm
          clear hca hcb he7 he8
          go_upto_region 22 with (fail)
          go_region_with (first
            | (go_at_call 74; refine (HCB.out _ B1.out.rd).mono ?_; rintro e w2 ⟨rfl, h2, g2⟩; have B2 := Lib.hid (B1.out.call h2 g2); have k0 := B2.out.fz 17; have k1 := B2.out.fz 18; have k2 : w2.cell? ⟨ob, 17, none⟩ = some (.string ⟨#[]⟩) := (B2.out.cl 17).trans rfl; have k3 : w2.cell? ⟨ob, 18, none⟩ = some (.string ⟨#[]⟩) := (B2.out.cl 18).trans rfl; clear h2 g2)
            | (go_at_call 74; refine (HCA.out _ A6.out.drew.rd).mono ?_; rintro e w1 ⟨rfl, h1, g1⟩; have B1 := Lib.hid (A6.out.drew.call h1 g1); have cx1 := B1.out.cx; clear h1 g1))
          all_goals
            have a := (B2.out.set 17 (.string x7) (Ob.mk k x1 x2 x3 (x4 == 1) x5 x6 [] ⟨#[]⟩ 0 0 [] [] ⟨#[]⟩ ⟨#[]⟩ 0 ⟨#[]⟩ x7 ⟨#[]⟩) (Sl.mk a5 c5) (Sl.mk a6 c6) Sl0 Sl0 Sl0 rfl ⟨B2.out.own.fr, B2.out.own.lr, B2.out.own.cr, B2.out.own.pr, B2.out.own.ir⟩).set 18 (.string x8) (Ob.mk k x1 x2 x3 (x4 == 1) x5 x6 [] ⟨#[]⟩ 0 0 [] [] ⟨#[]⟩ ⟨#[]⟩ 0 ⟨#[]⟩ x7 x8) (Sl.mk a5 c5) (Sl.mk a6 c6) Sl0 Sl0 Sl0 rfl (ObOwn.grown (⟨B2.out.own.fr, B2.out.own.lr, B2.out.own.cr, B2.out.own.pr, B2.out.own.ir⟩ : ObOwn w2 (ob + 1) (Ob.mk k x1 x2 x3 (x4 == 1) x5 x6 [] ⟨#[]⟩ 0 0 [] [] ⟨#[]⟩ ⟨#[]⟩ 0 ⟨#[]⟩ x7 x8) (Sl.mk a5 c5) (Sl.mk a6 c6) Sl0 Sl0 Sl0) (grown_set _ _ _ _) (Nat.lt_succ_self _))
            obtain ⟨wb, hwb⟩ : ∃ y, y = (w2.setCell ⟨ob, 17, none⟩ (.string x7)).setCell ⟨ob, 18, none⟩ (.string x8) := ⟨_, rfl⟩
            rw [← hwb] at a ⊢
            have A8 := Lib.hid a
            clear a hwb cx1 k0 k1 k2 k3 HCA HCB
            go_upto_region 23 with (fail)
            clear cx
            have hob : obI s st = ((Ob.mk k x1 x2 x3 (x4 == 1) x5 x6 [] ⟨#[]⟩ 0 0 [] [] ⟨#[]⟩ ⟨#[]⟩ 0 ⟨#[]⟩ x7 x8), q8) := by
              have HT : tailI s k = tail4I s := by rw [HK.out]; unfold tailI; rw [if_neg (by decide), if_neg (by decide), if_neg (by decide), if_pos rfl]
              simp only [obI, mapI, headI, bindI, kindI, truthI, tail4I, HT, E.out, EK.out, E1.out, E2.out, E3.out, E4.out, E5.out, E6.out, E7.out, E8.out]
              rfl
            have HOB := Lib.hid hob
            clear hob
            obtain ⟨cs, hcs, hres⟩ := A8.out.res
            rw [← HRX.out] at hres
            have RES := Lib.hid hres
            have CS := Lib.hid hcs
            clear hres hcs
            go_wp2_with (first
              | (refine wpList_load_row rfl 32 (.tmp 3) rfl _ rfl 32 _ (0, 0) _ A8.out.is Try.underlying32 rfl size32 ?_)
              | (refine wpList_store_row rfl 32 (.tmp 2) (.tmp 85) rfl _ _ rfl rfl 32 _ RES.out size32 (CS.out.trans rfl) (oc_one (Ob.mk k x1 x2 x3 (x4 == 1) x5 x6 [] ⟨#[]⟩ 0 0 [] [] ⟨#[]⟩ ⟨#[]⟩ 0 ⟨#[]⟩ x7 x8) (Sl.mk a5 c5) (Sl.mk a6 c6) Sl0 Sl0 Sl0) ?_))
            have rk := setRow_heap _ rs _ (oc (Ob.mk k x1 x2 x3 (x4 == 1) x5 x6 [] ⟨#[]⟩ 0 0 [] [] ⟨#[]⟩ ⟨#[]⟩ 0 ⟨#[]⟩ x7 x8) (Sl.mk a5 c5) (Sl.mk a6 c6) Sl0 Sl0 Sl0) _ _ RES.out
            have RK := Lib.hid rk
            clear rk
            refine bodyPost_ret (results_cell_row rfl _ _ rs 32 _ (0, 0) _ rfl RK.out Try.underlying32 rfl size32) rfl ⟨(Sl.mk a5 c5), (Sl.mk a6 c6), Sl0, Sl0, Sl0, ?_, ?_, ?_, ?_⟩
            · rw [HOB.out]
            · rw [HOB.out]; exact (ObOwn.row A8.out.own (by have := A8.out.lt; have := HRX.out; omega)).mono (by have := A8.out.lt; omega)
            · rw [HOB.out]; exact A8.out.rd.row (by have := A8.out.lt; have := HRX.out; omega)
            · exact A8.out.gr.row (by have := A8.out.lt; have := HRX.out; omega)
        · have N4 := Lib.hid hk4
          have kb4 : (k == 4) = false := by simpa using hk4
          clear hk4
          go_upto_region 23 with (fail)
          clear cx
          have hob : obI s st = ((Ob.mk k x1 x2 x3 (x4 == 1) x5 x6 [] ⟨#[]⟩ 0 0 [] [] ⟨#[]⟩ ⟨#[]⟩ 0 ⟨#[]⟩ ⟨#[]⟩ ⟨#[]⟩), q6) := by
            have HT : tailI s k = fun st => ({}, st) := by unfold tailI; rw [if_neg N1.out, if_neg N2.out, if_neg N3.out, if_neg N4.out]
            simp only [obI, mapI, headI, bindI, kindI, truthI, HT, E.out, EK.out, E1.out, E2.out, E3.out, E4.out, E5.out, E6.out]
            rfl
          have HOB := Lib.hid hob
          clear hob
          obtain ⟨cs, hcs, hres⟩ := A6.out.res
          rw [← HRX.out] at hres
          have RES := Lib.hid hres
          have CS := Lib.hid hcs
          clear hres hcs
          go_wp2_with (first
            | (refine wpList_load_row rfl 32 (.tmp 3) rfl _ rfl 32 _ (0, 0) _ A6.out.is Try.underlying32 rfl size32 ?_)
            | (refine wpList_store_row rfl 32 (.tmp 2) (.tmp 85) rfl _ _ rfl rfl 32 _ RES.out size32 (CS.out.trans rfl) (oc_one (Ob.mk k x1 x2 x3 (x4 == 1) x5 x6 [] ⟨#[]⟩ 0 0 [] [] ⟨#[]⟩ ⟨#[]⟩ 0 ⟨#[]⟩ ⟨#[]⟩ ⟨#[]⟩) (Sl.mk a5 c5) (Sl.mk a6 c6) Sl0 Sl0 Sl0) ?_))
          have rk := setRow_heap _ rs _ (oc (Ob.mk k x1 x2 x3 (x4 == 1) x5 x6 [] ⟨#[]⟩ 0 0 [] [] ⟨#[]⟩ ⟨#[]⟩ 0 ⟨#[]⟩ ⟨#[]⟩ ⟨#[]⟩) (Sl.mk a5 c5) (Sl.mk a6 c6) Sl0 Sl0 Sl0) _ _ RES.out
          have RK := Lib.hid rk
          clear rk
          refine bodyPost_ret (results_cell_row rfl _ _ rs 32 _ (0, 0) _ rfl RK.out Try.underlying32 rfl size32) rfl ⟨(Sl.mk a5 c5), (Sl.mk a6 c6), Sl0, Sl0, Sl0, ?_, ?_, ?_, ?_⟩
          · rw [HOB.out]
          · rw [HOB.out]; exact (ObOwn.row A6.out.own (by have := A6.out.lt; have := HRX.out; omega)).mono (by have := A6.out.lt; omega)
          · rw [HOB.out]; exact A6.out.rd.row (by have := A6.out.lt; have := HRX.out; omega)
          · exact A6.out.gr.row (by have := A6.out.lt; have := HRX.out; omega)
end Go.Proofs.Ytolndeolehkjoaa
