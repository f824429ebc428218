/- The disk's List: the numbers of all files, rising. -/
import Derived.Test.YtdmjbdecemajpaaDoorDk2
import Derived.Test.YtdmjbdecemajpaaDoorLay
namespace Go.Proofs.YtdmjbdecemajpaaDoor.D
set_option linter.unusedVariables false
set_option linter.unusedSimpArgs false
open Go.RowKit Go.Maps Go.Sort Go.Shelf
def R0 : Value → Option (DataW Unit × List MemPlace) := fun _ => some (.nil, [])
theorem key_of (a : Int) (h : 0 ≤ a ∧ a ≤ 1000000) : keyOf Tryd.prog 3 (.int .i64 a) = some (.int .i64 a) := by
  have hw : (Lit.int .i64 a).wf = true := by simp [Lit.wf, IntKind.min, IntKind.max, IntKind.signed, IntKind.bits]; omega
  simp [keyOf, Tryd.underlying3, mapKey, hw]
theorem keys_own {B db m : Nat} {s : DS} {w : World} (h : DInv B db m s w) (hn : M.Nodup s.files) (hr : ∀ p ∈ s.files, 1 ≤ p.1 ∧ p.1 ≤ 1000000) (hl : s.files.length ≤ 1000) :
    ∃ D0 : DataW Unit, w.ownsMap Tryd.prog 3 R0 m 1000 D0 ∧ (intKeys D0).Perm (s.files.map (·.1)) ∧ Maps.size D0 ≤ 1000 := by
  obtain ⟨es, ck, hh, hp, hb⟩ := h.map
  have hlen : es.size = s.files.length := by
    have := congrArg List.length hp
    simpa [M.pairs, M.img, mi] using this
  have hkeys : es.toList.map (·.key) = s.files.map fun p => kv p.1 := by
    have := congrArg (List.map (·.1)) hp
    simpa [M.pairs, M.img, mi, List.map_map, Function.comp_def] using this
  have hrd : ∀ x ∈ es.toList, ∃ a, x.key = .int .i64 a ∧ 1 ≤ a ∧ a ≤ 1000000 := fun x hx => by
    have : x.key ∈ es.toList.map (·.key) := List.mem_map_of_mem hx
    rw [hkeys] at this
    obtain ⟨p, hp, e⟩ := List.mem_map.1 this
    exact ⟨p.1, e.symm, hr p hp⟩
  have hrg : ∀ x ∈ es.toList, ∀ a, x.key = .int .i64 a → WideElems.rd Tryd.prog 3 R0 x = some (.int .i64 a, .nil) := fun x hx a ha => by
    obtain ⟨a', ha', h1, h2⟩ := hrd x hx
    obtain rfl : a = a' := by rw [ha] at ha'; cases ha'; rfl
    unfold WideElems.rd
    rw [ha, key_of a ⟨by omega, h2⟩]
    rfl
  have F : WideElems.Fit Tryd.prog 3 R0 es ck := by
    refine ⟨by rw [hlen]; unfold maxLen; omega, ⟨fun x hx => hb.1 _ (List.mem_map_of_mem hx), hb.2, ?_⟩, fun x hx => ?_⟩
    · rw [hkeys, List.Nodup, List.pairwise_map]
      exact hn.imp fun {p q} hne e => hne (by simpa [kv] using e)
    · obtain ⟨a, ha, _⟩ := hrd x hx
      exact ⟨_, hrg x hx a ha⟩
  refine ⟨_, ⟨es, ck, hh, F, by rw [hlen]; exact hl, rfl⟩, ?_, ?_⟩
  · show (((es.toList.map (WideElems.rg Tryd.prog 3 R0)).foldr DataW.insert []).map fun p => Go.intOf p.1).Perm _
    refine ((WideShapes.sorted_perm _).map _).trans (List.Perm.of_eq ?_)
    rw [List.map_map]
    have e1 : es.toList.map ((fun p : Lit × DataW Unit => Go.intOf p.1) ∘ WideElems.rg Tryd.prog 3 R0) = (es.toList.map (·.key)).map fun v => match v with | .int _ a => a | _ => 0 := by
      rw [List.map_map]
      refine List.map_congr_left fun x hx => ?_
      obtain ⟨a, ha, _⟩ := hrd x hx
      simp only [Function.comp, WideElems.rg, hrg x hx a ha, ha]
      rfl
    rw [e1, hkeys, List.map_map]
    rfl
  · show ((es.toList.map (WideElems.rg Tryd.prog 3 R0)).foldr DataW.insert []).length ≤ 1000
    rw [(WideShapes.sorted_perm _).length_eq, List.length_map]
    simpa [hlen] using hl
theorem sortsA (n : Nat) : AnyZI.SortsIn Tryd.prog Tryd.sortedA_ren Fence.wide n :=
  ⟨fun blk off cap ss W hH hblk hsz => callsIn_wide.2 (AnyM.slices_Sort_int Tryd.sortA blk off cap ss W hH hblk hsz),
   fun p cap W => callsIn_wide.2 (AnyM.slices_Sort_int_none Tryd.sortA p cap W)⟩
set_option maxRecDepth 100000 in
set_option maxHeartbeats 2000000 in
theorem list_any (B db m : Nat) (s : DS) (w : World) (h : DInv B db m s w) (hn : M.Nodup s.files) (hr : ∀ p ∈ s.files, 1 ≤ p.1 ∧ p.1 ≤ 1000000) (hl : s.files.length ≤ 1000) :
    Calls Tryd.prog 52 #[.pointer (some ⟨db, 0, none⟩)] w fun e w' => ∃ v, e = .returned v ∧ w'.ownsRow w.heap.size 3 1 v s.keys.length (s.keys.map kv) ∧ Below w.heap.size w w' := by
  obtain ⟨D0, hown, hperm, hsz⟩ := keys_own h hn hr hl
  have hmax : Maps.size D0 ≤ maxLen := by unfold maxLen; omega
  have hbytes : Maps.size D0 * 8 ≤ 140737488355328 := by omega
  have c0 := h.c0
  have hlt := h.lt
  have hks : ∀ ss : List Int, ss.Perm (intKeys D0) → ss.mergeSort (fun x y => decide (x ≤ y)) = s.keys ∧ ss.length = s.keys.length := fun ss hss => by
    have hp := hss.trans hperm
    refine ⟨mergeSort_of_perm_i hp, ?_⟩
    show _ = ((s.files.map (·.1)).mergeSort leI).length
    rw [List.length_mergeSort]; exact hp.length_eq
  have HKS := Lib.hid hks
  refine (callsIn_wide (n := 6)).1 ?_
  have hbl := hown.lt
  have hseq : SeqGives Fence.wide 2 Tryd.prog 72 #[.pointer (some ⟨w.heap.size, 0, none⟩)] encZ (fun ss => ss.Perm (intKeys D0)) (Maps.size D0) (w.alloc (.cells #[.map (some m)] 79)) :=
    AnyZI.keys_gives (ρ := Tryd.keysA_ren) { Tryd.keysA with } Fence.wide _ trivial rfl (by omega) w.heap.size m 1000 D0 _ (by simp) (by simp) (by
      obtain ⟨es, clock, hb, Ft, hs, hD⟩ := hown
      exact ⟨es, clock, (Below.heap_alloc _ _ m hbl).trans hb, Ft, hs, hD⟩)
  have cK : ∀ mb W, CallsIn Fence.wide 5 Tryd.prog 65 #[.map mb] W fun e w' => e = .returned (.func (.func 72) #[] #[.pointer (some ⟨W.heap.size, 0, none⟩)]) ∧ w' = W.alloc (.cells #[.map mb] 79) := fun mb W => AnyZI.keys_in Tryd.keysA Fence.wide 5 trivial rfl mb W
  have cS := AnyZI.sorted_in Tryd.sortedA Fence.wide 5 trivial trivial trivial trivial rfl (by omega) (sortsA _) (enters_of Tryd.func71 (by kernel_rfl) rfl) 72 #[.pointer (some ⟨w.heap.size, 0, none⟩)] trivial (enters_of Tryd.func72 (by kernel_rfl) rfl) _ _ hmax hbytes _ hseq
  change CallsIn _ _ Tryd.prog 64 _ _ _ at cS
  have hfK : Fence.wide.fn 65 := trivial
  have hfS : Fence.wide.fn 64 := trivial
  clear hks hperm hsz hmax hbytes hown hbl hseq h hn hr hl
  refine callsIn_of_wp Tryd.func52 rfl trivial ?_ rfl
  simp only [Tryd.ntmps52, List.size_toArray, List.length_cons, List.length_nil, Nat.reduceAdd, Nat.reduceSub, Array.replicate_succ, Array.replicate_zero, List.push_toArray, List.append_toArray, List.nil_append, List.cons_append]
  gi_wp2_with (first
    | (gi_at_call 65; refine (cK _ _).mono ?_; rintro e w' ⟨rfl, rfl⟩)
    | (gi_at_call 64; refine cS.mono ?_; rintro e w' ⟨v, ss, rfl, hS, hrow, hnil, hb⟩))
  go_ret
  obtain ⟨e1, e2⟩ := HKS.out ss hS
  rw [e1, e2] at hrow
  exact ⟨v, rfl, ownsRow_base_a hrow (by simp), ((Below.refl _ w).alloc (Nat.le_refl _) _).trans (hb.mono (by simp))⟩
end Go.Proofs.YtdmjbdecemajpaaDoor.D
