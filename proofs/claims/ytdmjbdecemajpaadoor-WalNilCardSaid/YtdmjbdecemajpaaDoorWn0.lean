/- The chapter's example of the log, plain: each state. No walk. -/
import Derived.Test.YtdmjbdecemajpaaDoorWk6
namespace Go.Proofs.YtdmjbdecemajpaaDoor.D
set_option linter.unusedVariables false
set_option linter.unusedSimpArgs false
open Go.RowKit
theorem Okk.lay {s : DS} {k : Nat} (h : Okk s k) (g : Int) (t : ByteArray) : Okk (layS' s g t) (k + 2) := by
  unfold layS'
  split
  · exact (h.app _ _).mono (by omega)
  · exact (h.app _ _).syn _
theorem Okk.remOut (g l : Int) : ∀ (r : List Int) (s : DS) (k : Nat), Okk s k → Okk (remOut g l r s).2 (k + r.length)
  | [], s, k, h => h
  | no :: r, s, k, h => by
    rw [D.remOut]
    have e : (no :: r).length = r.length + 1 := rfl
    split
    · exact (Okk.remOut g l r s k h).mono (by omega)
    split
    · exact (h.rem no).mono (by omega)
    · exact (Okk.remOut g l r _ (k + 1) (h.rem no)).mono (by omega)
theorem Okk.tid {s : DS} {k : Nat} (h : Okk s k) (no good : Int) : Okk (tidS s no good) (k + 2) := by
  unfold tidS
  split
  · split
    · exact (h.tri _ _).mono (by omega)
    · exact (h.tri _ _).syn _
  · exact (h.syn _).mono (by omega)
theorem Okk.openP {s : DS} {k : Nat} (h : Okk s k) : Okk (openP s).s (k + 112) := by
  unfold D.openP
  split
  · exact h.mono (by omega)
  · rename_i p _
    have hr := (Okk.remOut p.1 (segs s p).last s.keys s k h).mono (j := k + 110) (by have := keys_len h; omega)
    unfold openT
    split
    · exact hr.mono (by omega)
    split
    · exact hr.mono (by omega)
    split
    · exact hr.tid _ _
    · exact hr.tid _ _
theorem Okk.wsy {s : DS} {k : Nat} (h : Okk s k) (L : LS) : Okk (wsyS s L) (k + 1) := by
  unfold wsyS
  split
  · exact h.mono (by omega)
  split
  · exact h.syn _
  · exact h.mono (by omega)
theorem Okk.wap {s : DS} {k : Nat} (h : Okk s k) (L : LS) (t : ByteArray) (hl : 0 ≤ L.last ∧ L.last ≤ 1000) : Okk (wapS s L t) (k + 2) := by
  have hr := (room_ok (L := L) h hl).ok
  unfold wapS
  split
  · exact h.mono (by omega)
  split
  · exact h.mono (by omega)
  split
  · exact hr.mono (by omega)
  · exact hr.app _ _
theorem mx : max (0 : Int) (-1) = 0 := by decide
theorem z0 : (⟨#[]⟩ : ByteArray).size = 0 := rfl
/-- the example's states -/
def X1 (z : ByteArray) : DS := ⟨[(100, ⟨z, 8⟩)], false, 0, 2⟩
def X2 (z a : ByteArray) (n : Nat) (k : Int) : DS := ⟨[(100, ⟨z, 8⟩), (101, ⟨a, n⟩)], false, 0, k⟩
theorem x_lay (z : ByteArray) (hz : z.size = 8) (he : frm ⟨#[]⟩ = z) : layE DS0 1 ⟨#[]⟩ = 0 ∧ layS' DS0 1 ⟨#[]⟩ = X1 z := by
  unfold layE layS'
  rw [he]
  have e1 : appE DS0 (1 * 100) z = 0 := by simp [appE, mayE, DS0, DS.fl, M.get, fl0, stepE, mx, z0, empty_append, hz]
  have e2 : appS DS0 (1 * 100) z = ⟨[(100, ⟨z, 0⟩)], false, 0, 1⟩ := by simp [appS, mayE, DS0, DS.fl, DS.put, M.get, M.put, fl0, stepS, mx, z0, empty_append, hz]
  rw [e1, e2]
  simp [synE, synS, mayE, M.get, M.put, DS.put, DS.fl, stepE, mx, z0, empty_append, stepS, mx, z0, empty_append, X1, hz]
theorem keys1 (z : ByteArray) : (X1 z).keys = [100] := by simp [DS.keys, X1]
theorem keys2 (z a : ByteArray) (n : Nat) (k : Int) : (X2 z a n k).keys = [100, 101] := by
  show ([100, 101] : List Int).mergeSort leI = _
  exact List.mergeSort_of_pairwise (by simp [leI])
theorem x_open1 (z : ByteArray) (hz : z.size = 8) (hw : whole z = true) (hb : fBody z = ⟨#[]⟩) : openP (X1 z) = ⟨0, X1 z, some ⟨1, ⟨#[]⟩, [], 0, 0, false⟩⟩ := by
  have hn : newP (X1 z) (X1 z).keys.reverse = some (1, ⟨#[]⟩) := by
    rw [keys1]
    simp [newP, DS.fl, M.get, X1, hw, hb]
  have hs : segs (X1 z) (1, ⟨#[]⟩) = ⟨[], 0, 0⟩ := by
    unfold segs
    rw [segP]
    simp [X1, M.get]
  have hr : remOut 1 0 (X1 z).keys (X1 z) = (0, X1 z) := by
    rw [keys1]
    simp [remOut]
  unfold openP
  rw [hn]
  simp [hs, hr, openT]
theorem x_app1 (z a t : ByteArray) (ht : t.size = 1) (ha : a.size = 9) (he : frm t = a) : wapE (X1 z) ⟨1, ⟨#[]⟩, [], 0, 0, false⟩ t = 0 ∧ wapS (X1 z) ⟨1, ⟨#[]⟩, [], 0, 0, false⟩ t = X2 z a 0 3 ∧ wapL (X1 z) ⟨1, ⟨#[]⟩, [], 0, 0, false⟩ t = ⟨1, ⟨#[]⟩, [t], 1, 1, false⟩ := by
  have hr : roomP (X1 z) ⟨1, ⟨#[]⟩, [], 0, 0, false⟩ = ⟨1, 0, X1 z, ⟨1, ⟨#[]⟩, [], 0, 0, false⟩⟩ := by simp [roomP]
  have e1 : appE (X1 z) 101 a = 0 := by simp [appE, mayE, X1, DS.fl, M.get, fl0, stepE, mx, z0, empty_append, ha]
  have e2 : appS (X1 z) 101 a = X2 z a 0 3 := by simp [appS, mayE, X1, X2, DS.fl, DS.put, M.get, M.put, fl0, stepS, mx, z0, empty_append, ha]
  unfold wapE wapS wapL
  rw [hr, he]
  simp [ht, e1, e2, addL, endL]
theorem x_syn (z a t : ByteArray) (ha : a.size = 9) : wsyE (X2 z a 0 3) ⟨1, ⟨#[]⟩, [t], 1, 1, false⟩ = 0 ∧ wsyS (X2 z a 0 3) ⟨1, ⟨#[]⟩, [t], 1, 1, false⟩ = X2 z a 9 4 ∧ wsyL (X2 z a 0 3) ⟨1, ⟨#[]⟩, [t], 1, 1, false⟩ = ⟨1, ⟨#[]⟩, [t], 1, 0, false⟩ := by
  have e1 : synE (X2 z a 0 3) 101 = 0 := by simp [synE, mayE, X2, M.get, stepE, mx, z0, empty_append]
  have e2 : synS (X2 z a 0 3) 101 = X2 z a 9 4 := by simp [synS, mayE, X2, DS.fl, DS.put, M.get, M.put, stepE, mx, z0, empty_append, stepS, mx, z0, empty_append, ha]
  unfold wsyE wsyS wsyL
  simp [e1, e2, endL]
theorem x_app2 (z a b t u : ByteArray) (hu : u.size = 1) (ha : a.size = 9) (hb : b.size = 9) (he : frm u = b) : wapE (X2 z a 9 4) ⟨1, ⟨#[]⟩, [t], 1, 0, false⟩ u = 0 ∧ wapS (X2 z a 9 4) ⟨1, ⟨#[]⟩, [t], 1, 0, false⟩ u = X2 z (a ++ b) 9 5 ∧ wapL (X2 z a 9 4) ⟨1, ⟨#[]⟩, [t], 1, 0, false⟩ u = ⟨1, ⟨#[]⟩, [t, u], 1, 1, false⟩ := by
  have hr : roomP (X2 z a 9 4) ⟨1, ⟨#[]⟩, [t], 1, 0, false⟩ = ⟨1, 0, X2 z a 9 4, ⟨1, ⟨#[]⟩, [t], 1, 0, false⟩⟩ := by simp [roomP, readT, X2, DS.fl, M.get, ha]
  have e1 : appE (X2 z a 9 4) 101 b = 0 := by simp [appE, mayE, X2, DS.fl, M.get, stepE, mx, z0, empty_append, ha, hb]
  have e2 : appS (X2 z a 9 4) 101 b = X2 z (a ++ b) 9 5 := by simp [appS, mayE, X2, DS.fl, DS.put, M.get, M.put, stepS, mx, z0, empty_append, ha, hb]
  unfold wapE wapS wapL
  rw [hr, he]
  simp [hu, e1, e2, addL, endL]
theorem x_start (z a b : ByteArray) (hz : z.size = 8) (ha : a.size = 9) (hb : b.size = 9) : staE (cutS (X2 z (a ++ b) 9 5)) = 0 ∧ staS (cutS (X2 z (a ++ b) 9 5)) [] = X2 z a 9 5 := by
  have hk : (cutS (X2 z (a ++ b) 9 5)).keys = [100, 101] := keys2 z (a ++ b) 9 5
  have he : (a ++ b).extract 0 9 = a := by
    rw [← ha, ext_app a b a.size (Nat.le_refl _), ext_self]
  have hn : ¬ (a ++ b).size = 9 := by rw [ByteArray.size_append]; omega
  refine ⟨by simp [staE, cutS, X2], ?_⟩
  unfold staS
  rw [hk]
  have hab : (a ++ b).size = 18 := by rw [ByteArray.size_append]; omega
  simp [cutS, X2, staF, M.get, M.put, staySize, hz, hab, he]
theorem x_open2 (z a t : ByteArray) (hz : z.size = 8) (ha : a.size = 9) (hw : whole z = true) (hb : fBody z = ⟨#[]⟩) (hs : scan a = ([t], 9)) : openP (X2 z a 9 5) = ⟨0, X2 z a 9 6, some ⟨1, ⟨#[]⟩, [t], 1, 0, false⟩⟩ := by
  have hn : newP (X2 z a 9 5) (X2 z a 9 5).keys.reverse = some (1, ⟨#[]⟩) := by
    rw [keys2]
    simp [newP, DS.fl, M.get, X2, hw, hb]
  have hsg : segs (X2 z a 9 5) (1, ⟨#[]⟩) = ⟨[t], 1, 9⟩ := by
    unfold segs
    rw [segP, segP]
    simp [X2, M.get, DS.fl, hs, ha]
  have hr : remOut 1 1 (X2 z a 9 5).keys (X2 z a 9 5) = (0, X2 z a 9 5) := by
    rw [keys2]
    simp [remOut]
  have e1 : tidE (X2 z a 9 5) 101 9 = 0 := by simp [tidE, synE, mayE, X2, DS.fl, M.get, stepE, mx, z0, empty_append, ha]
  have e2 : tidS (X2 z a 9 5) 101 9 = X2 z a 9 6 := by simp [tidS, synS, mayE, X2, DS.fl, DS.put, M.get, M.put, stepE, mx, z0, empty_append, stepS, mx, z0, empty_append, ha]
  unfold openP
  rw [hn]
  simp [hsg, hr, openT, e1, e2]
end Go.Proofs.YtdmjbdecemajpaaDoor.D
