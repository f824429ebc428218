/- The order of items: cmp.Or of three numbers, less. -/
import Derived.Test.YthmknlflgajnpaaQue
import Derived.Test.YthmknlflgajnpaaTk
import Derived.Test.YthmknlflgajnpaaShelf
import Derived.Great.BuildSlice
namespace Go.Proofs.Ythmknlflgajnpaa
set_option linter.unusedVariables false
set_option linter.unusedSimpArgs false
open Go.RowKit
def or3 (a b c : Int) : Int := if a ≠ 0 then a else if b ≠ 0 then b else c
set_option maxRecDepth 100000 in
set_option maxHeartbeats 1000000 in
theorem or3_any (a b c : Int) (g : Nat) (w : World) (h0 : w.cell? ⟨g, 0, none⟩ = some (.int .i64 a)) (h1 : w.cell? ⟨g, 1, none⟩ = some (.int .i64 b)) (h2 : w.cell? ⟨g, 2, none⟩ = some (.int .i64 c)) :
    Calls Try.prog 62 #[.slice (some ⟨g, 0, none⟩) 3 3] w fun e w' => e = .returned (.int .i64 (or3 a b c)) ∧ w' = w := by
  go_enter Try.func62, Try.ntmps62
  go_wp2
  go_loop [8] (fun i => ∃ k : Nat, k ≤ 3 ∧ i = .int .i64 k ∧ (0 < k → a = 0) ∧ (1 < k → b = 0) ∧ (2 < k → c = 0)) (fun i => 3 - (intOf i).toNat)
  case atStart => exact ⟨0, by omega, rfl, by omega, by omega, by omega⟩
  case round =>
    obtain ⟨k, hk, rfl, z0, z1, z2⟩ := hrel
    rcases (by omega : k = 0 ∨ k = 1 ∨ k = 2 ∨ k = 3) with rfl | rfl | rfl | rfl
    · clear z0 z1 z2 hk
      by_cases ha : a = 0
      · have d : (a != 0) = false := by simp [ha]
        have HA := Lib.hid ha
        clear ha
        go_wp2
        go_round
        case rel => exact ⟨1, by omega, rfl, fun _ => HA.out, by omega, by omega⟩
        case measure => simp [intOf]
      · have d : (a != 0) = true := by simp [ha]
        have HO := Lib.hid (show or3 a b c = a from if_pos ha)
        clear ha
        go_wp2
        go_ret
        exact ⟨by rw [HO.out]; rfl, rfl⟩
    · have HA := Lib.hid (z0 (by omega))
      clear z0 z1 z2 hk
      by_cases hb : b = 0
      · have d : (b != 0) = false := by simp [hb]
        have HB := Lib.hid hb
        clear hb
        go_wp2
        go_round
        case rel => exact ⟨2, by omega, rfl, fun _ => HA.out, fun _ => HB.out, by omega⟩
        case measure => simp [intOf]
      · have d : (b != 0) = true := by simp [hb]
        have HO := Lib.hid (show or3 a b c = b by unfold or3; rw [if_neg (by rw [HA.out]; simp), if_pos hb])
        clear hb
        go_wp2
        go_ret
        exact ⟨by rw [HO.out]; rfl, rfl⟩
    · have HA := Lib.hid (z0 (by omega))
      have HB := Lib.hid (z1 (by omega))
      clear z0 z1 z2 hk
      have HO := Lib.hid (show or3 a b c = c by unfold or3; rw [if_neg (by rw [HA.out]; simp), if_neg (by rw [HB.out]; simp)])
      by_cases hc : c = 0
      · have d : (c != 0) = false := by simp [hc]
        have HC := Lib.hid hc
        clear hc
        go_wp2
        go_round
        case rel => exact ⟨3, by omega, rfl, fun _ => HA.out, fun _ => HB.out, fun _ => HC.out⟩
        case measure => simp [intOf]
      · have d : (c != 0) = true := by simp [hc]
        clear hc
        go_wp2
        go_ret
        exact ⟨by rw [HO.out]; rfl, rfl⟩
    · have HO := Lib.hid (show or3 a b c = 0 by unfold or3; rw [if_neg (by rw [z0 (by omega)]; simp), if_neg (by rw [z1 (by omega)]; simp), z2 (by omega)])
      clear z0 z1 z2 hk
      go_wp2
      go_ret
      exact ⟨by rw [HO.out]; rfl, rfl⟩
def cmpI (a b : Item) : Int := or3 (Lib.compareInt a.due b.due) (Lib.compareInt a.ref.kind b.ref.kind) (Lib.compareBytes a.ref.name.data.toList b.ref.name.data.toList)
def lessB (a b : Item) : Bool := decide (cmpI a b < 0)
def iv (x : Item) : Value := .agg #[.int .i64 x.due, .int .i64 x.ref.kind, .string x.ref.name]
def ica (x : Item) : Array Value := #[.int .i64 x.due, .int .i64 x.ref.kind, .string x.ref.name]
/-- two boxes of items are there -/
structure TB (x y : Nat) (a b : Item) (w1 V : World) : Prop where
  x : V.heap[x]? = some (.cells (ica a) 64 (0, 0))
  y : V.heap[y]? = some (.cells (ica b) 64 (0, 0))
  b : Below w1.heap.size w1 V
theorem TB.at {x y : Nat} {a b : Item} {w1 V : World} (h : TB x y a b w1 V) :
    (V.cell? ⟨x, 0, none⟩ = some (.int .i64 a.due) ∧ V.cell? ⟨x, 1, none⟩ = some (.int .i64 a.ref.kind) ∧ V.cell? ⟨x, 2, none⟩ = some (.string a.ref.name)) ∧ V.cell? ⟨y, 0, none⟩ = some (.int .i64 b.due) ∧ V.cell? ⟨y, 1, none⟩ = some (.int .i64 b.ref.kind) ∧ V.cell? ⟨y, 2, none⟩ = some (.string b.ref.name) := by
  simp [World.cell?, h.x, h.y, ica]
theorem wp_build3 {o : Oper} {a : Act} {w : World} {K : Act → World → Prop} {Q : Exit → Act → World → Prop} (d t u v : Nat) (n m k : Int) (hd : o.dst = some d) (ho : o.op = .buildSlice 103 3 #[(0, .tmp t), (1, .tmp u), (2, .tmp v)]) (hx : a.tmps[t]?.getD undef = .int .i64 n) (hy : a.tmps[u]?.getD undef = .int .i64 m) (hz : a.tmps[v]?.getD undef = .int .i64 k)
    (h : ∀ g w', w'.cell? ⟨g, 0, none⟩ = some (.int .i64 n) → w'.cell? ⟨g, 1, none⟩ = some (.int .i64 m) → w'.cell? ⟨g, 2, none⟩ = some (.int .i64 k) → Below w.heap.size w w' → K ⟨a.tmps.setIfInBounds d (.slice (some ⟨g, 0, none⟩) 3 3), a.defers⟩ w') : Oper.wp Try.prog o a w K Q := by
  have hb := G.heap_new w (.cells #[.int .i64 n, .int .i64 m, .int .i64 k] 3)
  have hk := h w.heap.size _ (by simp only [World.cell?, hb]; rfl) (by simp only [World.cell?, hb]; rfl) (by simp only [World.cell?, hb]; rfl) (bel_allocT w (.cells #[.int .i64 n, .int .i64 m, .int .i64 k] 3))
  obtain ⟨dst, op, ty, pos, after, guard⟩ := o
  simp only at ho hd
  subst ho; subst hd
  clear h hb
  go_simp
  exact hk
set_option maxRecDepth 100000 in
set_option maxHeartbeats 2000000 in
theorem less_any (a b : Item) (w : World) : Calls Try.prog 61 #[iv a, iv b] w fun e w' => e = .returned (.bool (lessB a b)) ∧ Below w.heap.size w w' := by
  obtain ⟨w1, hw1, b1, p1, q1⟩ := box_two w (ica a) (ica b) 64 64
  obtain ⟨x, hx⟩ : ∃ x, x = w.heap.size := ⟨_, rfl⟩
  obtain ⟨y, hy⟩ : ∃ y, y = w.heap.size + 1 := ⟨_, rfl⟩
  rw [← hx] at p1
  rw [← hy] at q1
  have HW := Lib.hid hw1
  have B1 := Lib.hid b1
  have L1 := Lib.hid (And.intro (Array.getElem?_eq_some_iff.1 p1).1 (Array.getElem?_eq_some_iff.1 q1).1)
  have T1 := Lib.hid (TB.mk p1 q1 (Below.refl _ _))
  clear b1 p1 q1 hw1
  unfold iv
  go_enter Try.func61, Try.ntmps61
  go_upto_region 1 with (fail)
  rw [show (w.alloc (.cells #[.int .i64 a.due, .int .i64 a.ref.kind, .string a.ref.name] 64)).alloc (.cells #[.int .i64 b.due, .int .i64 b.ref.kind, .string b.ref.name] 64) = w1 from HW.out.symm, ← hy, ← hx]
  clear hx hy
  refine wp_region_held_drew (S := TB x y a b w1) (by kernel_rfl) ⟨T1.out.x, T1.out.y, ⟨rfl, rfl, rfl, Nat.le_refl _, fun _ _ => rfl⟩⟩ (fun hS0 => ?_)
  refine tk 0 5 (.pointer (some ⟨x, 0, none⟩)) ?_
  try simp only [s1, s2, s3]
  refine tk 1 6 (.int .i64 a.due) ?_ (hv := by (intro V hV; have hc := hV.at.1.1; clear hV; go_simp; try rfl))
  try simp only [s1, s2, s3]
  refine tk 2 7 (.pointer (some ⟨y, 0, none⟩)) ?_
  try simp only [s1, s2, s3]
  refine tk 3 8 (.int .i64 b.due) ?_ (hv := by (intro V hV; have hc := hV.at.2.1; clear hV; go_simp; try rfl))
  try simp only [s1, s2, s3]
  refine tk 5 10 (.pointer (some ⟨x, 1, none⟩)) ?_
  try simp only [s1, s2, s3]
  refine tk 6 11 (.pointer (some ⟨x, 1, none⟩)) ?_
  try simp only [s1, s2, s3]
  refine tk 7 12 (.int .i64 a.ref.kind) ?_ (hv := by (intro V hV; have hc := hV.at.1.2.1; clear hV; go_simp; try rfl))
  try simp only [s1, s2, s3]
  refine tk 8 13 (.pointer (some ⟨y, 1, none⟩)) ?_
  try simp only [s1, s2, s3]
  refine tk 9 14 (.pointer (some ⟨y, 1, none⟩)) ?_
  try simp only [s1, s2, s3]
  refine tk 10 15 (.int .i64 b.ref.kind) ?_ (hv := by (intro V hV; have hc := hV.at.2.2.1; clear hV; go_simp; try rfl))
  try simp only [s1, s2, s3]
  refine tk 12 17 (.pointer (some ⟨x, 1, none⟩)) ?_
  try simp only [s1, s2, s3]
  refine tk 13 18 (.pointer (some ⟨x, 2, none⟩)) ?_
  try simp only [s1, s2, s3]
  refine tk 14 19 (.string a.ref.name) ?_ (hv := by (intro V hV; have hc := hV.at.1.2.2; clear hV; go_simp; try rfl))
  try simp only [s1, s2, s3]
  refine tk 15 20 (.pointer (some ⟨y, 1, none⟩)) ?_
  try simp only [s1, s2, s3]
  refine tk 16 21 (.pointer (some ⟨y, 2, none⟩)) ?_
  try simp only [s1, s2, s3]
  refine tk 17 22 (.string b.ref.name) ?_ (hv := by (intro V hV; have hc := hV.at.2.2.2; clear hV; go_simp; try rfl))
  try simp only [s1, s2, s3]
  refine wpAnyH_ready (rs := [4]) (by kernel_rfl) (by simp) ?_
  refine AllReadyH.cons rfl (fun K hK => ?_) ?_
  · rw [if_pos (by rfl)]
    go_simp
    go_at_call 63
    refine (Try.cmp_Compare_int a.due b.due _).mono ?_
    rintro e v1 ⟨rfl, hq1⟩
    have hp1 := hq1.symm
    clear hq1
    subst hp1
    dsimp only
    refine hK.out _ _ ((by assumption)) (fun hHeld => ?_)
    clear hK K
    try simp only [Act.put, s1, s2, s3]
    refine wpAnyH_ready (rs := [11]) (by kernel_rfl) (by simp) ?_
    refine AllReadyH.cons rfl (fun K hK => ?_) ?_
    · rw [if_pos (by rfl)]
      go_simp
      go_at_call 63
      refine (Try.cmp_Compare_int a.ref.kind b.ref.kind _).mono ?_
      rintro e v2 ⟨rfl, hq2⟩
      have hp2 := hq2.symm
      clear hq2
      subst hp2
      dsimp only
      refine hK.out _ _ ((by assumption)) (fun hHeld => ?_)
      clear hK K
      try simp only [Act.put, s1, s2, s3]
      refine wpAnyH_ready (rs := [18]) (by kernel_rfl) (by simp) ?_
      refine AllReadyH.cons rfl (fun K hK => ?_) ?_
      · rw [if_pos (by rfl)]
        go_simp
        go_at_call 64
        refine (Try.strings_Compare a.ref.name b.ref.name _).mono ?_
        rintro e v3 ⟨rfl, hq3⟩
        have hp3 := hq3.symm
        clear hq3
        subst hp3
        dsimp only
        refine hK.out _ _ ((by assumption)) (fun hHeld => ?_)
        clear hK K
        try simp only [Act.put, s1, s2, s3]
        refine wpAnyH_ready (rs := [19]) (by kernel_rfl) (by simp) ?_
        refine AllReadyH.cons rfl (fun K hK => ?_) ?_
        · rw [if_pos (by rfl)]
          refine wp_build3 24 9 16 23 (Lib.compareInt a.due b.due) (Lib.compareInt a.ref.kind b.ref.kind) (Lib.compareBytes a.ref.name.data.toList b.ref.name.data.toList) rfl rfl rfl rfl rfl ?_
          intro g4 v4 ha4 hb4 hc4 hd4
          refine hK.out _ _ (⟨(hd4.block x (Nat.lt_of_lt_of_le L1.out.1 (TB.b (by assumption)).size)).trans (TB.x (by assumption)), (hd4.block y (Nat.lt_of_lt_of_le L1.out.2 (TB.b (by assumption)).size)).trans (TB.y (by assumption)), G.bthen (TB.b (by assumption)) hd4⟩) (fun hHeld => ?_)
          clear hK K
          have HD4 := Lib.hid hd4
          clear hd4
          try simp only [Act.put, s1, s2, s3]
          refine wpAnyH_ready (rs := [20]) (by kernel_rfl) (by simp) ?_
          refine AllReadyH.cons rfl (fun K hK => ?_) ?_
          · rw [if_pos (by rfl)]
            go_simp
            go_at_call 62
            refine (or3_any (Lib.compareInt a.due b.due) (Lib.compareInt a.ref.kind b.ref.kind) (Lib.compareBytes a.ref.name.data.toList b.ref.name.data.toList) _ _ (by assumption) (by assumption) (by assumption)).mono ?_
            rintro e v5 ⟨rfl, hq5⟩
            have hp5 := hq5.symm
            clear hq5
            subst hp5
            dsimp only
            refine hK.out _ _ ((by assumption)) (fun hHeld => ?_)
            clear hK K
            try simp only [Act.put, s1, s2, s3]
            refine tk 21 26 (.bool (lessB a b)) ?_
            try simp only [s1, s2, s3]
            refine tk 22 4 (.bool (lessB a b)) ?_
            try simp only [s1, s2, s3]
            refine wpAnyH_done (by kernel_rfl) ?_ _
            have HE := Lib.hid hHeld
            repeat clear hHeld
            clear hS0
            go_wp2
            go_ret
            exact ⟨rfl, B1.out.trans (belowLe B1.out.size HE.out.b)⟩
          exact AllReadyH.nil
        exact AllReadyH.nil
      exact AllReadyH.nil
    exact AllReadyH.nil
  exact AllReadyH.nil
end Go.Proofs.Ythmknlflgajnpaa
