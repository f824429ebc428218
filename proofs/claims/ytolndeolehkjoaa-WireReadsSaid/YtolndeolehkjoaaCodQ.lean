/- Plain laws of an object's bytes. No program. -/
import Derived.Test.YtolndeolehkjoaaCodP
namespace Go.Proofs.Ytolndeolehkjoaa.CodP
set_option linter.unusedVariables false
set_option linter.unusedSimpArgs false
/-- a number of eight bytes, the highest first -/
def num8 (n : Nat) : ByteArray := ofBL [UInt8.ofNat (n / 72057594037927936), UInt8.ofNat (n / 281474976710656), UInt8.ofNat (n / 1099511627776), UInt8.ofNat (n / 4294967296), UInt8.ofNat (n / 16777216), UInt8.ofNat (n / 65536), UInt8.ofNat (n / 256), UInt8.ofNat n]
def be8 (s : ByteArray) : Nat := (BL s).foldl (fun n b => n * 256 + b.toNat) 0
theorem num8_size (n : Nat) : (num8 n).size = 8 := by rw [← BL_length, num8, BL_ofBL]; rfl
theorem be8_num8 (n : Nat) (h : n < 18446744073709551616) : be8 (num8 n) = n := by
  simp only [be8, num8, BL_ofBL, List.foldl_cons, List.foldl_nil, UInt8.toNat_ofNat']
  omega
theorem eight {l : List UInt8} (h : l.length = 8) : ∃ a b c d e f g i, l = [a, b, c, d, e, f, g, i] := by
  match l, h with
  | [a, b, c, d, e, f, g, i], _ => exact ⟨a, b, c, d, e, f, g, i, rfl⟩
theorem num8_be8 (s : ByteArray) (h : s.size = 8) : num8 (be8 s) = s := by
  apply BL_inj
  obtain ⟨a, b, c, d, e, f, g, i, hl⟩ := eight (l := BL s) (by rw [BL_length, h])
  simp only [num8, BL_ofBL, be8, hl, List.foldl_cons, List.foldl_nil]
  have ha := a.toNat_lt
  have hb := b.toNat_lt
  have hc := c.toNat_lt
  have hd := d.toNat_lt
  have he := e.toNat_lt
  have hf := f.toNat_lt
  have hg := g.toNat_lt
  have hi := i.toNat_lt
  simp only [List.cons.injEq, and_true]
  refine ⟨?_, ?_, ?_, ?_, ?_, ?_, ?_, ?_⟩ <;> (rw [← UInt8.toNat_inj, UInt8.toNat_ofNat']; omega)
theorem be8_lt (s : ByteArray) (h : s.size = 8) : be8 s < 18446744073709551616 := by
  obtain ⟨a, b, c, d, e, f, g, i, hl⟩ := eight (l := BL s) (by rw [BL_length, h])
  simp only [be8, hl, List.foldl_cons, List.foldl_nil]
  have ha := a.toNat_lt
  have hb := b.toNat_lt
  have hc := c.toNat_lt
  have hd := d.toNat_lt
  have he := e.toNat_lt
  have hf := f.toNat_lt
  have hg := g.toNat_lt
  have hi := i.toNat_lt
  omega
/-- a great number -/
def numC : Cod Int :=
  keepC (mapC (takeC 8) (fun s => (be8 s : Int)) (fun n => num8 n.toNat) (by
    intro s h
    simp only [Int.toNat_natCast]
    exact num8_be8 s h)) fun n => decide (n ≤ 1099511627776)
theorem numC_good (n : Int) : numC.good n ↔ 0 ≤ n ∧ n ≤ 1099511627776 := by
  simp only [numC, keepC, mapC, takeC, num8_size, decide_eq_true_eq, true_and]
  constructor
  · rintro ⟨h1, h2⟩; omega
  · rintro ⟨h1, h2⟩
    refine ⟨?_, h2⟩
    rw [be8_num8 _ (by omega)]; omega
def truthC : Cod Bool :=
  mapC (smallC 1) (fun n => n == 1) (fun b => if b then 1 else 0) (by
    rintro n ⟨⟨h1, h2⟩, h3⟩
    simp only [decide_eq_true_eq] at h3
    rcases (by omega : n = 0 ∨ n = 1) with rfl | rfl <;> rfl)
/-- an object -/
structure Ob where
  kind : Int
  name : ByteArray
  uid : Int
  version : Int
  deleting : Bool
  fins : List ByteArray
  labels : List (ByteArray × ByteArray)
  cidrs : List ByteArray
  status : ByteArray
  type : Int
  policy : Int
  fams : List Int
  ips : List ByteArray
  v4 : ByteArray
  v6 : ByteArray
  bits : Int
  sel : ByteArray
  about : ByteArray
  reason : ByteArray
/-- what hangs on the kind -/
structure Tl where
  cidrs : List ByteArray := []
  status : ByteArray := ⟨#[]⟩
  type : Int := 0
  policy : Int := 0
  fams : List Int := []
  ips : List ByteArray := []
  v4 : ByteArray := ⟨#[]⟩
  v6 : ByteArray := ⟨#[]⟩
  bits : Int := 0
  sel : ByteArray := ⟨#[]⟩
  about : ByteArray := ⟨#[]⟩
  reason : ByteArray := ⟨#[]⟩
def pairC : Cod (ByteArray × ByteArray) := bindC textC fun _ => textC
def tail1 : Cod Tl := mapC (bindC (listC textC 8) fun _ => textC) (fun x => { cidrs := x.1, status := x.2 }) (fun t => (t.cidrs, t.status)) (fun _ _ => rfl)
def tail2 : Cod Tl := mapC (bindC (smallC 255) fun _ => bindC (smallC 255) fun _ => bindC (listC (smallC 255) 8) fun _ => listC textC 8)
  (fun x => { type := x.1, policy := x.2.1, fams := x.2.2.1, ips := x.2.2.2 }) (fun t => (t.type, t.policy, t.fams, t.ips)) (fun _ _ => rfl)
def tail3 : Cod Tl := mapC (bindC textC fun _ => bindC textC fun _ => bindC (smallC 255) fun _ => textC)
  (fun x => { v4 := x.1, v6 := x.2.1, bits := x.2.2.1, sel := x.2.2.2 }) (fun t => (t.v4, t.v6, t.bits, t.sel)) (fun _ _ => rfl)
def tail4 : Cod Tl := mapC (bindC textC fun _ => textC) (fun x => { about := x.1, reason := x.2 }) (fun t => (t.about, t.reason)) (fun _ _ => rfl)
def tailC (k : Int) : Cod Tl := if k = 1 then tail1 else if k = 2 then tail2 else if k = 3 then tail3 else if k = 4 then tail4 else unitC {}
def kindC : Cod Int := keepC (smallC 4) fun k => decide (k ≠ 0)
abbrev Hd := Int × ByteArray × Int × Int × Bool × List ByteArray × List (ByteArray × ByteArray) × Tl
def ofHd (x : Hd) : Ob :=
  ⟨x.1, x.2.1, x.2.2.1, x.2.2.2.1, x.2.2.2.2.1, x.2.2.2.2.2.1, x.2.2.2.2.2.2.1, x.2.2.2.2.2.2.2.cidrs, x.2.2.2.2.2.2.2.status, x.2.2.2.2.2.2.2.type, x.2.2.2.2.2.2.2.policy, x.2.2.2.2.2.2.2.fams, x.2.2.2.2.2.2.2.ips,
    x.2.2.2.2.2.2.2.v4, x.2.2.2.2.2.2.2.v6, x.2.2.2.2.2.2.2.bits, x.2.2.2.2.2.2.2.sel, x.2.2.2.2.2.2.2.about, x.2.2.2.2.2.2.2.reason⟩
def toHd (o : Ob) : Hd := (o.kind, o.name, o.uid, o.version, o.deleting, o.fins, o.labels, ⟨o.cidrs, o.status, o.type, o.policy, o.fams, o.ips, o.v4, o.v6, o.bits, o.sel, o.about, o.reason⟩)
def headC : Cod Hd := bindC kindC fun k => bindC textC fun _ => bindC numC fun _ => bindC numC fun _ => bindC truthC fun _ => bindC (listC textC 4) fun _ => bindC (listC pairC 16) fun _ => tailC k
def obC : Cod Ob := mapC headC ofHd toHd fun _ _ => rfl
theorem textC_good (s : ByteArray) : textC.good s ↔ s.size ≤ 200 := by
  simp only [textC, mapC, bindC, smallC, keepC, byteC, takeC, decide_eq_true_eq, and_true]
  omega
theorem smallC_good (m n : Int) : (smallC m).good n ↔ 0 ≤ n ∧ n ≤ 255 ∧ n ≤ m := by
  simp only [smallC, keepC, byteC, decide_eq_true_eq, and_assoc]
theorem listC_good {α : Type} (c : Cod α) (m : Int) (hm : m ≤ 255) (l : List α) : (listC c m).good l ↔ l.length ≤ m ∧ ∀ x ∈ l, c.good x := by
  simp only [listC, mapC, bindC, and_true]
  rw [smallC_good, (repC c _).2]
  simp only [Int.toNat_natCast, true_and]
  constructor
  · rintro ⟨⟨h1, h2, h3⟩, h4⟩; exact ⟨h3, h4⟩
  · rintro ⟨h3, h4⟩; exact ⟨⟨by omega, by omega, h3⟩, h4⟩
theorem truthC_good (b : Bool) : truthC.good b := by
  cases b <;> simp [truthC, mapC, smallC, keepC, byteC]
theorem kindC_good (k : Int) : kindC.good k ↔ 1 ≤ k ∧ k ≤ 4 := by
  simp only [kindC, keepC, smallC_good, decide_eq_true_eq]
  omega
theorem pairC_good (p : ByteArray × ByteArray) : pairC.good p ↔ p.1.size ≤ 200 ∧ p.2.size ≤ 200 := by
  simp only [pairC, bindC, textC_good]
def Nil : ByteArray := ⟨#[]⟩
/-- the fields that no other kind has -/
def only (o : Ob) : Bool :=
  (o.kind == 1 || (o.cidrs.isEmpty && o.status.size == 0)) &&
  (o.kind == 2 || (o.type == 0 && o.policy == 0 && o.fams.isEmpty && o.ips.isEmpty)) &&
  (o.kind == 3 || (o.v4.size == 0 && o.v6.size == 0 && o.bits == 0 && o.sel.size == 0)) &&
  (o.kind == 4 || (o.about.size == 0 && o.reason.size == 0))
def inR (n m : Int) : Bool := decide (0 ≤ n ∧ n ≤ m)
def textsB (l : List ByteArray) (m : Nat) : Bool := decide (l.length ≤ m) && l.all fun s => decide (s.size ≤ 200)
def labelsB (l : List (ByteArray × ByteArray)) : Bool := decide (l.length ≤ 16) && l.all fun p => decide (p.1.size ≤ 200 ∧ p.2.size ≤ 200)
/-- has it a shape? -/
def shape (o : Ob) : Bool :=
  (inR (o.kind - 1) 3 && only o) && (inR o.type 255 && inR o.policy 255 && inR o.bits 255 && (o.fams.all fun n => inR n 255)) &&
  (inR o.uid 1099511627776 && inR o.version 1099511627776) &&
  ([o.name, o.status, o.v4, o.v6, o.sel, o.about, o.reason].all fun s => decide (s.size ≤ 200)) &&
  textsB o.fins 4 && textsB o.cidrs 8 && textsB o.ips 8 && decide (o.fams.length ≤ 8) && labelsB o.labels
theorem size0 {s : ByteArray} : s.size = 0 ↔ s = ⟨#[]⟩ := by
  constructor
  · intro h
    apply BL_inj
    have : BL s = [] := List.length_eq_zero_iff.1 (by rw [BL_length, h])
    rw [this]; rfl
  · rintro rfl; rfl
theorem obC_good (o : Ob) : obC.good o ↔ shape o = true := by
  have e : obC.good o ↔ headC.good (toHd o) := by
    simp only [obC, mapC]
    exact ⟨fun h => h.1, fun h => ⟨h, rfl⟩⟩
  rw [e]
  simp only [headC, bindC, toHd, kindC_good, textC_good, numC_good, truthC_good, true_and]
  rw [listC_good _ _ (by decide), listC_good _ _ (by decide)]
  simp only [textC_good, pairC_good]
  have zI : ∀ x : Int, (0 = x) = (x = 0) := fun x => propext eq_comm
  have zB : ∀ x : ByteArray, ((⟨#[]⟩ : ByteArray) = x) = (x = ⟨#[]⟩) := fun x => propext eq_comm
  have zL : ∀ x : List ByteArray, ([] = x) = (x = []) := fun x => propext eq_comm
  have zF : ∀ x : List Int, ([] = x) = (x = []) := fun x => propext eq_comm
  have n4 : ∀ n : Nat, ((n : Int) ≤ 4) = (n ≤ 4) := fun n => propext (by omega)
  have n8 : ∀ n : Nat, ((n : Int) ≤ 8) = (n ≤ 8) := fun n => propext (by omega)
  have n16 : ∀ n : Nat, ((n : Int) ≤ 16) = (n ≤ 16) := fun n => propext (by omega)
  by_cases hk : 1 ≤ o.kind ∧ o.kind ≤ 4
  · rcases (by omega : o.kind = 1 ∨ o.kind = 2 ∨ o.kind = 3 ∨ o.kind = 4) with h | h | h | h
    all_goals simp only [shape, only, inR, textsB, labelsB, h, tailC, tail1, tail2, tail3, tail4, mapC, bindC, textC_good, smallC_good, listC_good _ 8 (by decide), Tl.mk.injEq, Bool.and_eq_true, decide_eq_true_eq, List.all_eq_true, Bool.or_eq_true, beq_iff_eq, size0, List.isEmpty_iff, List.mem_cons, List.not_mem_nil, or_false, forall_eq_or_imp, forall_eq, if_true, if_false, reduceIte, Int.reduceEq, Int.reduceLE, Int.reduceSub, true_and, and_true, true_or, false_or, or_true, zI, zB, zL, zF, n4, n8, n16, and_assoc]
    all_goals
      generalize (∀ x : ByteArray × ByteArray, x ∈ o.labels → x.1.size ≤ 200 ∧ x.2.size ≤ 200) = P
      constructor
      · intro hh
        simp_all
        try decide
      · intro hh
        simp_all
  · constructor
    · rintro ⟨h, -⟩; exact absurd h hk
    · intro h
      simp only [shape, inR, Bool.and_eq_true, decide_eq_true_eq] at h
      omega
end Go.Proofs.Ytolndeolehkjoaa.CodP
