/- The disk, plain: its state and what each call makes of it. No program. -/
import Derived.Test.YtdmjbdecemajpaaDoorMap
namespace Go.Proofs.YtdmjbdecemajpaaDoor.D
set_option linter.unusedVariables false
open Go.RowKit
/-- a file: its bytes, and how many of them are safe -/
structure Fl where
  data : ByteArray
  safe : Nat
  deriving DecidableEq
abbrev FM := List (Int × Fl)
structure DS where
  files : FM
  off : Bool
  fuse : Int
  steps : Int
def fl0 : Fl := ⟨⟨#[]⟩, 0⟩
def DS.get (s : DS) (no : Int) : Option Fl := M.get s.files no
def DS.fl (s : DS) (no : Int) : Fl := (M.get s.files no).getD fl0
def mayE (s : DS) (no : Int) (there : Bool) : Int := if s.off then 6 else if no < 1 ∨ 1000000 < no then 1 else if there = true ∧ (M.get s.files no).isSome = false then 7 else 0
def stepS (s : DS) : DS := if s.fuse = 1 then { s with steps := s.steps + 1, off := true, fuse := 0 } else { s with steps := s.steps + 1, fuse := max 0 (s.fuse - 1) }
def stepE (s : DS) : Int := if s.fuse = 1 then 6 else 0
def DS.put (s : DS) (no : Int) (f : Fl) : DS := { s with files := M.put s.files no f }
def DS.del (s : DS) (no : Int) : DS := { s with files := M.del s.files no }
def appE (s : DS) (no : Int) (t : ByteArray) : Int := if mayE s no false ≠ 0 then mayE s no false else if 1048576 < (s.fl no).data.size + t.size then 5 else if (M.get s.files no).isSome = false ∧ 110 ≤ s.files.length then 9 else stepE s
def appS (s : DS) (no : Int) (t : ByteArray) : DS := if mayE s no false ≠ 0 then s else if 1048576 < (s.fl no).data.size + t.size then s else if (M.get s.files no).isSome = false ∧ 110 ≤ s.files.length then s else stepS (s.put no ⟨(s.fl no).data ++ t, (s.fl no).safe⟩)
def synE (s : DS) (no : Int) : Int := if mayE s no true ≠ 0 then mayE s no true else stepE s
def synS (s : DS) (no : Int) : DS := if mayE s no true ≠ 0 then s else if stepE s ≠ 0 then stepS s else (stepS s).put no ⟨(s.fl no).data, (s.fl no).data.size⟩
def triE (s : DS) (no size : Int) : Int := if mayE s no true ≠ 0 then mayE s no true else if size < 0 ∨ ((s.fl no).data.size : Int) < size then 1 else stepE s
def triS (s : DS) (no size : Int) : DS := if mayE s no true ≠ 0 then s else if size < 0 ∨ ((s.fl no).data.size : Int) < size then s else if stepE s ≠ 0 then stepS s else (stepS s).put no ⟨(s.fl no).data.extract 0 size.toNat, min (s.fl no).safe size.toNat⟩
def remE (s : DS) (no : Int) : Int := synE s no
def remS (s : DS) (no : Int) : DS := if mayE s no true ≠ 0 then s else if stepE s ≠ 0 then stepS s else (stepS s).del no
def readB (s : DS) (no : Int) : Bool := !s.off && (M.get s.files no).isSome
def readT (s : DS) (no : Int) : ByteArray := if s.off then ⟨#[]⟩ else (s.fl no).data
def fusE (s : DS) : Int := if s.off then 6 else 0
def fusS (s : DS) (n : Int) : DS := if s.off then s else { s with fuse := max 0 n }
def cutS (s : DS) : DS := if s.off then s else { s with off := true, fuse := 0 }
def leI (x y : Int) : Bool := decide (x ≤ y)
def DS.keys (s : DS) : List Int := (s.files.map (·.1)).mergeSort leI
/-- how much of a file stays -/
def staySize (picks : List Int) (k : Nat) (f : Fl) : Nat := f.safe + (if picks.length = 0 then 0 else (max 0 (picks.getD (k % picks.length) 0)).toNat % (f.data.size - f.safe + 1))
def staF (picks : List Int) : List Int → FM → Nat → FM
  | [], m, _ => m
  | no :: l, m, k => if ((M.get m no).getD fl0).data.size = ((M.get m no).getD fl0).safe then staF picks l m k
    else staF picks l (M.put m no ⟨((M.get m no).getD fl0).data.extract 0 (staySize picks k ((M.get m no).getD fl0)), staySize picks k ((M.get m no).getD fl0)⟩) (k + 1)
def staE (s : DS) : Int := if s.off then 0 else 17
def staS (s : DS) (picks : List Int) : DS := if s.off then { s with files := staF picks s.keys s.files 0, off := false } else s
/-- what every disk keeps to -/
structure Ok (s : DS) : Prop where
  nd : M.Nodup s.files
  len : s.files.length ≤ 110
  no : ∀ p ∈ s.files, 1 ≤ p.1 ∧ p.1 ≤ 1000000
  fl : ∀ p ∈ s.files, p.2.safe ≤ p.2.data.size ∧ p.2.data.size ≤ 1048576
  fuse : 0 ≤ s.fuse
end Go.Proofs.YtdmjbdecemajpaaDoor.D
