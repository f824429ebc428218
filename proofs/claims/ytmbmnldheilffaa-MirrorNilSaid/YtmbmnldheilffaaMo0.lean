/- Objects and names as plain data. No program. -/
import Derived.RowKit
namespace Go.Proofs.Ytmbmnldheilffaa
open Go.RowKit
def BL (s : ByteArray) : List UInt8 := s.data.toList
theorem BL_inj {s t : ByteArray} (h : BL s = BL t) : s = t := by
  cases s; cases t
  simp only [ByteArray.mk.injEq]
  exact Array.toList_inj.1 h
/-- an object -/
structure Ob where
  kind : Int
  name : ByteArray
  uid : Int
  version : Int
  deleting : Bool
  fins : List ByteArray
  labels : List (ByteArray × ByteArray)
  cidrs : List ByteArray
  status : ByteArray
  type : Int
  policy : Int
  fams : List Int
  ips : List ByteArray
  v4 : ByteArray
  v6 : ByteArray
  bits : Int
  sel : ByteArray
  about : ByteArray
  reason : ByteArray
  deriving DecidableEq
def zeroOb : Ob := ⟨0, ⟨#[]⟩, 0, 0, false, [], [], [], ⟨#[]⟩, 0, 0, [], [], ⟨#[]⟩, ⟨#[]⟩, 0, ⟨#[]⟩, ⟨#[]⟩, ⟨#[]⟩⟩
/-- a name -/
structure Ref where
  kind : Int
  name : ByteArray
  deriving DecidableEq
end Go.Proofs.Ytmbmnldheilffaa
