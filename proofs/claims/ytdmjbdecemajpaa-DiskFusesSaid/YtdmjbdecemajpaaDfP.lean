/- The reference's disk and the disk, plain: what stands in both. No walk. -/
import Derived.Test.YtdmjbdecemajpaaDf1
namespace Go.Proofs.Ytdmjbdecemajpaa.D
set_option linter.unusedVariables false
set_option linter.unusedSimpArgs false
open Go.RowKit
/-- a file of the disk, as the reference keeps it -/
def ent (s : DS) (no : Int) : RF := ⟨no, (s.fl no).data.extract 0 (s.fl no).safe, (s.fl no).data.extract (s.fl no).safe (s.fl no).data.size⟩
/-- both tell the same -/
structure Rel (s : DS) (r : RS) : Prop where
  fs : r.fs = s.keys.map (ent s)
  steps : r.steps = s.steps
theorem ent_size {s : DS} {no : Int} (h : (s.fl no).safe ≤ (s.fl no).data.size) : (ent s no).safe.size = (s.fl no).safe := by
  show ((s.fl no).data.extract 0 (s.fl no).safe).size = _
  simp; omega
theorem ent_all {s : DS} {no : Int} (h : (s.fl no).safe ≤ (s.fl no).data.size) : (ent s no).safe ++ (ent s no).tail = (s.fl no).data := by
  show (s.fl no).data.extract 0 (s.fl no).safe ++ (s.fl no).data.extract (s.fl no).safe (s.fl no).data.size = _
  apply ByteArray.ext
  have : (s.fl no).data.data.size = (s.fl no).data.size := rfl
  simp
theorem Rel.len {s : DS} {r : RS} (h : Rel s r) : r.fs.length = s.files.length := by
  rw [h.fs, List.length_map]
  show ((s.files.map (·.1)).mergeSort leI).length = _
  rw [List.length_mergeSort, List.length_map]
end Go.Proofs.Ytdmjbdecemajpaa.D
