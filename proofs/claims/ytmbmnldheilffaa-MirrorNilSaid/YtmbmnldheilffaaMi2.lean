/- object.Clone: an object that shares nothing with it. -/
import Derived.Test.YtmbmnldheilffaaMi1
namespace Go.Proofs.Ytmbmnldheilffaa
set_option linter.unusedVariables false
set_option linter.unusedSimpArgs false
open Go.RowKit
/-- lists of an object are not too long -/
structure Sz5 (o : Ob) : Prop where
  fins : o.fins.length ≤ 1000000
  labels : o.labels.length ≤ 1000000
  cidrs : o.cidrs.length ≤ 1000000
  fams : o.fams.length ≤ 1000000
  ips : o.ips.length ≤ 1000000
/-- an object's box, and an empty one -/
structure ClS (w w1 : World) (x y : Nat) (cs : Array Value) (V : World) : Prop where
  hx : V.heap[x]? = some (.cells cs 26 (0, 0))
  hy : V.heap[y]? = some (.cells zob 26 (0, 0))
  b : Below w.heap.size w V
  lt : w1.heap.size ≤ V.heap.size
  xl : x < w1.heap.size
  yl : y < w1.heap.size
  xy : x ≠ y
  xw : w.heap.size ≤ x
  sz : cs.size = 19
theorem ClS.call {w w1 V V' : World} {x y : Nat} {cs : Array Value} (h : ClS w w1 x y cs V) (hb : Below V.heap.size V V') : ClS w w1 x y cs V' :=
  ⟨(hb.block _ (Nat.lt_of_lt_of_le h.xl h.lt)).trans h.hx, (hb.block _ (Nat.lt_of_lt_of_le h.yl h.lt)).trans h.hy, G.bthen h.b hb, Nat.le_trans h.lt hb.size, h.xl, h.yl, h.xy, h.xw, h.sz⟩
theorem ClS.cell {w w1 V : World} {x y : Nat} {cs : Array Value} (h : ClS w w1 x y cs V) (i : Nat) : V.cell? ⟨x, i, none⟩ = cs[i]? := by simp [World.cell?, h.hx]
theorem ClS.isSome {w w1 V : World} {x y : Nat} {cs : Array Value} (h : ClS w w1 x y cs V) (i : Nat) (hi : i < 19) : (V.cell? ⟨x, i, none⟩).isSome = true := by
  rw [h.cell, Array.getElem?_eq_getElem (by rw [h.sz]; exact hi)]; rfl
theorem ClS.some {w w1 V : World} {x y : Nat} {cs : Array Value} (h : ClS w w1 x y cs V) (i : Nat) (hi : i < 19) : ∃ u, V.cell? ⟨x, i, none⟩ = some u := by
  rw [h.cell, Array.getElem?_eq_getElem (by rw [h.sz]; exact hi)]; exact ⟨_, rfl⟩
theorem ClS.free {w w1 V : World} {x y : Nat} {cs : Array Value} (h : ClS w w1 x y cs V) (i : Nat) : V.frozen? ⟨x, i, none⟩ = false := by simp [World.frozen?, h.hx]
theorem ClS.set {w w1 V : World} {x y : Nat} {cs : Array Value} (h : ClS w w1 x y cs V) (i : Nat) (v : Value) : ClS w w1 x y (cs.setIfInBounds i v) (V.setCell ⟨x, i, none⟩ v) :=
  ⟨heap_setCell_same _ _ _ _ _ _ h.hx, (Below.heap_setCell _ _ _ _ h.xy.symm).trans h.hy, h.b.trans ⟨rfl, rfl, rfl, by simp [World.setCell], fun j hj => Below.heap_setCell _ _ _ _ (show j ≠ x by have := h.xw; omega)⟩,
    by have := h.lt; simpa [World.setCell] using this, h.xl, h.yl, h.xy, h.xw, by simpa using h.sz⟩
theorem owns_set {w : World} {B e size n x : Nat} {v : Value} {xs : List Value} (h : w.ownsRow B e size v n xs) (hx : x < B) (i : Nat) (u : Value) : (w.setCell ⟨x, i, none⟩ u).ownsRow B e size v n xs := by
  obtain ⟨hl, ⟨rfl, rfl⟩ | ⟨g, cap, cur, rfl, hb, hh, r⟩⟩ := h
  · exact ⟨hl, .inl ⟨rfl, rfl⟩⟩
  · exact ⟨hl, .inr ⟨g, cap, cur, rfl, hb, (Below.heap_setCell _ _ _ _ (show g ≠ x by omega)).trans hh, r⟩⟩
theorem owns_row {w : World} {B e size n y : Nat} {v : Value} {xs : List Value} (h : w.ownsRow B e size v n xs) (hy : y < B) (cs : Array Value) : (w.setRow y cs).ownsRow B e size v n xs := by
  obtain ⟨hl, ⟨rfl, rfl⟩ | ⟨g, cap, cur, rfl, hb, hh, r⟩⟩ := h
  · exact ⟨hl, .inl ⟨rfl, rfl⟩⟩
  · exact ⟨hl, .inr ⟨g, cap, cur, rfl, hb, (setRow_other _ _ _ _ (by omega)).trans hh, r⟩⟩
set_option maxRecDepth 100000 in
set_option maxHeartbeats 4000000 in
theorem oclone_any (o : Ob) (f l c p i : Sl) (w : World) (hr : RowsR w o f l c p i) (hs : Sz5 o) :
    Calls Try.prog 22 #[.agg (oc o f l c p i)] w fun e w' => ∃ f' l' c' p' i', e = .returned (.agg (oc o f' l' c' p' i')) ∧ ObOwn w' w.heap.size o f' l' c' p' i' ∧ Below w.heap.size w w' := by
  obtain ⟨w1, hw1⟩ : ∃ w1, w1 = (w.alloc (.cells (oc o f l c p i) 26)).alloc (.cells zob 26) := ⟨_, rfl⟩
  have b1 : Below w.heap.size w w1 := by rw [hw1]; exact G.bthen (bel_alloc _ _) (bel_alloc _ _)
  have p1 : w1.heap[w.heap.size]? = some (.cells (oc o f l c p i) 26 (0, 0)) := by
    rw [hw1]; exact ((bel_alloc _ _).block _ (by simp)).trans (G.heap_new _ _)
  have q1 : w1.heap[w.heap.size + 1]? = some (.cells zob 26 (0, 0)) := by
    rw [hw1]
    have h2 := G.heap_new (w.alloc (.cells (oc o f l c p i) 26)) (.cells zob 26)
    rw [show (w.alloc (.cells (oc o f l c p i) 26)).heap.size = w.heap.size + 1 by simp] at h2
    exact h2
  obtain ⟨x, hx⟩ : ∃ x, x = w.heap.size := ⟨_, rfl⟩
  obtain ⟨y, hy⟩ : ∃ y, y = w.heap.size + 1 := ⟨_, rfl⟩
  have hxl : x < w1.heap.size := by rw [hx]; exact (Array.getElem?_eq_some_iff.1 p1).1
  have hyl : y < w1.heap.size := by rw [hy]; exact (Array.getElem?_eq_some_iff.1 q1).1
  rw [← hx] at p1
  rw [← hy] at q1
  have HB := Lib.hid (show ClS w w1 x y (oc o f l c p i) w1.drew from ⟨p1, q1, G.bdrew b1, Nat.le_refl _, hxl, hyl, by omega, by omega, rfl⟩)
  have HEND : Hid (∀ (V : World) (Af Al Ac Ap Ai : Option Addr) (cf cl cc cp ci : Nat), Hid (ClS w w1 x y (oc o ⟨Af, cf⟩ ⟨Al, cl⟩ ⟨Ac, cc⟩ ⟨Ap, cp⟩ ⟨Ai, ci⟩) V) → Hid (V.ownsRow w1.heap.size 9 1 (.slice Af o.fins.length cf) o.fins.length (o.fins.flatMap cS)) → Hid (V.ownsRow w1.heap.size 78 2 (.slice Al o.labels.length cl) o.labels.length (o.labels.flatMap cP)) → Hid (V.ownsRow w1.heap.size 9 1 (.slice Ac o.cidrs.length cc) o.cidrs.length (o.cidrs.flatMap cS)) → Hid (V.ownsRow w1.heap.size 3 1 (.slice Ap o.fams.length cp) o.fams.length (o.fams.flatMap cI)) → Hid (V.ownsRow w1.heap.size 9 1 (.slice Ai o.ips.length ci) o.ips.length (o.ips.flatMap cS)) →
      ∃ f' l' c' p' i', Ending.returned (.agg (oc o ⟨Af, cf⟩ ⟨Al, cl⟩ ⟨Ac, cc⟩ ⟨Ap, cp⟩ ⟨Ai, ci⟩)) = .returned (.agg (oc o f' l' c' p' i')) ∧ ObOwn (V.setRow y (oc o ⟨Af, cf⟩ ⟨Al, cl⟩ ⟨Ac, cc⟩ ⟨Ap, cp⟩ ⟨Ai, ci⟩)) w.heap.size o f' l' c' p' i' ∧ Below w.heap.size w (V.setRow y (oc o ⟨Af, cf⟩ ⟨Al, cl⟩ ⟨Ac, cc⟩ ⟨Ap, cp⟩ ⟨Ai, ci⟩))) := Lib.hid (by
    intro V Af Al Ac Ap Ai cf cl cc cp ci HB HOf HOl HOc HOp HOi
    have hyw : w.heap.size ≤ y := by omega
    have hlw : w.heap.size ≤ w1.heap.size := b1.size
    refine ⟨⟨Af, cf⟩, ⟨Al, cl⟩, ⟨Ac, cc⟩, ⟨Ap, cp⟩, ⟨Ai, ci⟩, rfl, ⟨?_, ?_, ?_, ?_, ?_⟩, HB.out.b.trans ⟨rfl, rfl, rfl, by rw [size_setRow]; exact Nat.le_refl _, fun j hj => setRow_other _ _ _ _ (by omega)⟩⟩
    · exact owns_mono (owns_row HOf.out HB.out.yl _) hlw
    · exact owns_mono (owns_row HOl.out HB.out.yl _) hlw
    · exact owns_mono (owns_row HOc.out HB.out.yl _) hlw
    · exact owns_mono (owns_row HOp.out HB.out.yl _) hlw
    · exact owns_mono (owns_row HOi.out HB.out.yl _) hlw)
  have HR := Lib.hid hr
  have HS := Lib.hid hs
  have HW := Lib.hid hw1
  have HX := Lib.hid hx
  clear b1 p1 q1 hxl hyl hr hs hw1
  go_enter Try.func22, Try.ntmps22
  go_upto_region 1 with (fail)
  rw [← HW.out, ← hy, ← hx]
  clear hx hy
  have key1 : ∀ (V : World) (Af Al Ac : Option Addr) (cf cl cc : Nat), Hid (ClS w w1 x y (oc o f l c p i) V) → Hid (V.ownsRow w1.heap.size 9 1 (.slice Af o.fins.length cf) o.fins.length (o.fins.flatMap cS)) → Hid (V.ownsRow w1.heap.size 78 2 (.slice Al o.labels.length cl) o.labels.length (o.labels.flatMap cP)) → Hid (V.ownsRow w1.heap.size 9 1 (.slice Ac o.cidrs.length cc) o.cidrs.length (o.cidrs.flatMap cS)) → (?T1 : World → Option Addr → Option Addr → Option Addr → Nat → Nat → Nat → Prop) V Af Al Ac cf cl cc := ?later1
  refine wp_region_held_drew (S := fun _ => True) (by kernel_rfl) trivial (fun hS0 => ?_)
  refine tk 0 3 (.pointer (some ⟨x, 5, none⟩)) ?_
  try simp only [s1, s2, s3]
  refine tk 3 6 (.pointer (some ⟨x, 6, none⟩)) ?_
  try simp only [s1, s2, s3]
  refine tk 6 9 (.pointer (some ⟨x, 7, none⟩)) ?_
  try simp only [s1, s2, s3]
  refine wpAnyH_ready (rs := [1, 4, 7]) (by kernel_rfl) (by simp) ?_
  refine AllReadyH.cons rfl (fun K hK => ?_) ?_
  · rw [if_pos (by rfl)]
    have hcc := (HB.out.cell 5).trans (show _ = some (Value.slice f.A o.fins.length f.c) from rfl)
    try simp only [World.cell?_drew] at hcc
    go_simp
    clear hcc
    refine hK.out _ _ (trivial) (fun hHeld => ?_)
    clear hK K
    try simp only [Act.put, s1, s2, s3]
    refine wpAnyH_ready (rs := [2, 4, 7]) (by kernel_rfl) (by simp) ?_
    refine AllReadyH.cons rfl (fun K hK => ?_) ?_
    · rw [if_pos (by rfl)]
      go_simp
      go_at_call 30
      refine (clone_str o.fins f.A f.c _ (HR.out.below HB.out.b).fr HS.out.fins).mono ?_
      rintro e wn2 ⟨Af, cf, rfl, ho, hb⟩
      dsimp only
      have HOf := Lib.hid (owns_mono ho HB.out.lt)
      replace HB := Lib.hid (HB.out.call hb)
      clear ho hb
      refine hK.out _ _ (trivial) (fun hHeld => ?_)
      clear hK K
      try simp only [Act.put, s1, s2, s3]
      refine wpAnyH_ready (rs := [4, 7]) (by kernel_rfl) (by simp) ?_
      refine AllReadyH.cons rfl (fun K hK => ?_) ?_
      · rw [if_pos (by rfl)]
        have hcc := (HB.out.cell 6).trans (show _ = some (Value.slice l.A o.labels.length l.c) from rfl)
        try simp only [World.cell?_drew] at hcc
        go_simp
        clear hcc
        refine hK.out _ _ (trivial) (fun hHeld => ?_)
        clear hK K
        try simp only [Act.put, s1, s2, s3]
        refine wpAnyH_ready (rs := [5, 7]) (by kernel_rfl) (by simp) ?_
        refine AllReadyH.cons rfl (fun K hK => ?_) ?_
        · rw [if_pos (by rfl)]
          go_simp
          go_at_call 40
          refine (clone_pair o.labels l.A l.c _ (HR.out.below HB.out.b).lr HS.out.labels).mono ?_
          rintro e wn4 ⟨Al, cl, rfl, ho, hb⟩
          dsimp only
          replace HOf := Lib.hid (G.owns_below HOf.out hb)
          have HOl := Lib.hid (owns_mono ho HB.out.lt)
          replace HB := Lib.hid (HB.out.call hb)
          clear ho hb
          refine hK.out _ _ (trivial) (fun hHeld => ?_)
          clear hK K
          try simp only [Act.put, s1, s2, s3]
          refine wpAnyH_ready (rs := [7]) (by kernel_rfl) (by simp) ?_
          refine AllReadyH.cons rfl (fun K hK => ?_) ?_
          · rw [if_pos (by rfl)]
            have hcc := (HB.out.cell 7).trans (show _ = some (Value.slice c.A o.cidrs.length c.c) from rfl)
            try simp only [World.cell?_drew] at hcc
            go_simp
            clear hcc
            refine hK.out _ _ (trivial) (fun hHeld => ?_)
            clear hK K
            try simp only [Act.put, s1, s2, s3]
            refine tk 9 12 (.pointer (some ⟨x, 5, none⟩)) ?_
            try simp only [s1, s2, s3]
            refine wpAnyH_ready (rs := [8]) (by kernel_rfl) (by simp) ?_
            refine AllReadyH.cons rfl (fun K hK => ?_) ?_
            · rw [if_pos (by rfl)]
              go_simp
              go_at_call 30
              refine (clone_str o.cidrs c.A c.c _ (HR.out.below HB.out.b).cr HS.out.cidrs).mono ?_
              rintro e wn6 ⟨Ac, cc, rfl, ho, hb⟩
              dsimp only
              replace HOf := Lib.hid (G.owns_below HOf.out hb)
              replace HOl := Lib.hid (G.owns_below HOl.out hb)
              have HOc := Lib.hid (owns_mono ho HB.out.lt)
              replace HB := Lib.hid (HB.out.call hb)
              clear ho hb
              refine hK.out _ _ (trivial) (fun hHeld => ?_)
              clear hK K
              try simp only [Act.put, s1, s2, s3]
              repeat clear hHeld
              exact key1 _ _ _ _ _ _ _ HB HOf HOl HOc
            exact AllReadyH.nil
          exact AllReadyH.nil
        refine AllReadyH.cons rfl (fun K hK => ?_) ?_
        · rw [if_pos (by rfl)]
          have hcc := (HB.out.cell 7).trans (show _ = some (Value.slice c.A o.cidrs.length c.c) from rfl)
          try simp only [World.cell?_drew] at hcc
          go_simp
          clear hcc
          refine hK.out _ _ (trivial) (fun hHeld => ?_)
          clear hK K
          try simp only [Act.put, s1, s2, s3]
          refine tk 9 12 (.pointer (some ⟨x, 5, none⟩)) ?_
          try simp only [s1, s2, s3]
          refine wpAnyH_ready (rs := [5]) (by kernel_rfl) (by simp) ?_
          refine AllReadyH.cons rfl (fun K hK => ?_) ?_
          · rw [if_pos (by rfl)]
            go_simp
            go_at_call 40
            refine (clone_pair o.labels l.A l.c _ (HR.out.below HB.out.b).lr HS.out.labels).mono ?_
            rintro e wn8 ⟨Al, cl, rfl, ho, hb⟩
            dsimp only
            replace HOf := Lib.hid (G.owns_below HOf.out hb)
            have HOl := Lib.hid (owns_mono ho HB.out.lt)
            replace HB := Lib.hid (HB.out.call hb)
            clear ho hb
            refine hK.out _ _ (trivial) (fun hHeld => ?_)
            clear hK K
            try simp only [Act.put, s1, s2, s3]
            refine wpAnyH_ready (rs := [8]) (by kernel_rfl) (by simp) ?_
            refine AllReadyH.cons rfl (fun K hK => ?_) ?_
            · rw [if_pos (by rfl)]
              go_simp
              go_at_call 30
              refine (clone_str o.cidrs c.A c.c _ (HR.out.below HB.out.b).cr HS.out.cidrs).mono ?_
              rintro e wn9 ⟨Ac, cc, rfl, ho, hb⟩
              dsimp only
              replace HOf := Lib.hid (G.owns_below HOf.out hb)
              replace HOl := Lib.hid (G.owns_below HOl.out hb)
              have HOc := Lib.hid (owns_mono ho HB.out.lt)
              replace HB := Lib.hid (HB.out.call hb)
              clear ho hb
              refine hK.out _ _ (trivial) (fun hHeld => ?_)
              clear hK K
              try simp only [Act.put, s1, s2, s3]
              repeat clear hHeld
              exact key1 _ _ _ _ _ _ _ HB HOf HOl HOc
            exact AllReadyH.nil
          exact AllReadyH.nil
        exact AllReadyH.nil
      refine AllReadyH.cons rfl (fun K hK => ?_) ?_
      · rw [if_pos (by rfl)]
        have hcc := (HB.out.cell 7).trans (show _ = some (Value.slice c.A o.cidrs.length c.c) from rfl)
        try simp only [World.cell?_drew] at hcc
        go_simp
        clear hcc
        refine hK.out _ _ (trivial) (fun hHeld => ?_)
        clear hK K
        try simp only [Act.put, s1, s2, s3]
        refine wpAnyH_ready (rs := [4]) (by kernel_rfl) (by simp) ?_
        refine AllReadyH.cons rfl (fun K hK => ?_) ?_
        · rw [if_pos (by rfl)]
          have hcc := (HB.out.cell 6).trans (show _ = some (Value.slice l.A o.labels.length l.c) from rfl)
          try simp only [World.cell?_drew] at hcc
          go_simp
          clear hcc
          refine hK.out _ _ (trivial) (fun hHeld => ?_)
          clear hK K
          try simp only [Act.put, s1, s2, s3]
          refine tk 9 12 (.pointer (some ⟨x, 5, none⟩)) ?_
          try simp only [s1, s2, s3]
          refine wpAnyH_ready (rs := [5]) (by kernel_rfl) (by simp) ?_
          refine AllReadyH.cons rfl (fun K hK => ?_) ?_
          · rw [if_pos (by rfl)]
            go_simp
            go_at_call 40
            refine (clone_pair o.labels l.A l.c _ (HR.out.below HB.out.b).lr HS.out.labels).mono ?_
            rintro e wn12 ⟨Al, cl, rfl, ho, hb⟩
            dsimp only
            replace HOf := Lib.hid (G.owns_below HOf.out hb)
            have HOl := Lib.hid (owns_mono ho HB.out.lt)
            replace HB := Lib.hid (HB.out.call hb)
            clear ho hb
            refine hK.out _ _ (trivial) (fun hHeld => ?_)
            clear hK K
            try simp only [Act.put, s1, s2, s3]
            refine wpAnyH_ready (rs := [8]) (by kernel_rfl) (by simp) ?_
            refine AllReadyH.cons rfl (fun K hK => ?_) ?_
            · rw [if_pos (by rfl)]
              go_simp
              go_at_call 30
              refine (clone_str o.cidrs c.A c.c _ (HR.out.below HB.out.b).cr HS.out.cidrs).mono ?_
              rintro e wn13 ⟨Ac, cc, rfl, ho, hb⟩
              dsimp only
              replace HOf := Lib.hid (G.owns_below HOf.out hb)
              replace HOl := Lib.hid (G.owns_below HOl.out hb)
              have HOc := Lib.hid (owns_mono ho HB.out.lt)
              replace HB := Lib.hid (HB.out.call hb)
              clear ho hb
              refine hK.out _ _ (trivial) (fun hHeld => ?_)
              clear hK K
              try simp only [Act.put, s1, s2, s3]
              repeat clear hHeld
              exact key1 _ _ _ _ _ _ _ HB HOf HOl HOc
            exact AllReadyH.nil
          exact AllReadyH.nil
        exact AllReadyH.nil
      exact AllReadyH.nil
    refine AllReadyH.cons rfl (fun K hK => ?_) ?_
    · rw [if_pos (by rfl)]
      have hcc := (HB.out.cell 6).trans (show _ = some (Value.slice l.A o.labels.length l.c) from rfl)
      try simp only [World.cell?_drew] at hcc
      go_simp
      clear hcc
      refine hK.out _ _ (trivial) (fun hHeld => ?_)
      clear hK K
      try simp only [Act.put, s1, s2, s3]
      refine wpAnyH_ready (rs := [2, 7]) (by kernel_rfl) (by simp) ?_
      refine AllReadyH.cons rfl (fun K hK => ?_) ?_
      · rw [if_pos (by rfl)]
        go_simp
        go_at_call 30
        refine (clone_str o.fins f.A f.c _ (HR.out.below HB.out.b).fr HS.out.fins).mono ?_
        rintro e wn15 ⟨Af, cf, rfl, ho, hb⟩
        dsimp only
        have HOf := Lib.hid (owns_mono ho HB.out.lt)
        replace HB := Lib.hid (HB.out.call hb)
        clear ho hb
        refine hK.out _ _ (trivial) (fun hHeld => ?_)
        clear hK K
        try simp only [Act.put, s1, s2, s3]
        refine wpAnyH_ready (rs := [5, 7]) (by kernel_rfl) (by simp) ?_
        refine AllReadyH.cons rfl (fun K hK => ?_) ?_
        · rw [if_pos (by rfl)]
          go_simp
          go_at_call 40
          refine (clone_pair o.labels l.A l.c _ (HR.out.below HB.out.b).lr HS.out.labels).mono ?_
          rintro e wn16 ⟨Al, cl, rfl, ho, hb⟩
          dsimp only
          replace HOf := Lib.hid (G.owns_below HOf.out hb)
          have HOl := Lib.hid (owns_mono ho HB.out.lt)
          replace HB := Lib.hid (HB.out.call hb)
          clear ho hb
          refine hK.out _ _ (trivial) (fun hHeld => ?_)
          clear hK K
          try simp only [Act.put, s1, s2, s3]
          refine wpAnyH_ready (rs := [7]) (by kernel_rfl) (by simp) ?_
          refine AllReadyH.cons rfl (fun K hK => ?_) ?_
          · rw [if_pos (by rfl)]
            have hcc := (HB.out.cell 7).trans (show _ = some (Value.slice c.A o.cidrs.length c.c) from rfl)
            try simp only [World.cell?_drew] at hcc
            go_simp
            clear hcc
            refine hK.out _ _ (trivial) (fun hHeld => ?_)
            clear hK K
            try simp only [Act.put, s1, s2, s3]
            refine tk 9 12 (.pointer (some ⟨x, 5, none⟩)) ?_
            try simp only [s1, s2, s3]
            refine wpAnyH_ready (rs := [8]) (by kernel_rfl) (by simp) ?_
            refine AllReadyH.cons rfl (fun K hK => ?_) ?_
            · rw [if_pos (by rfl)]
              go_simp
              go_at_call 30
              refine (clone_str o.cidrs c.A c.c _ (HR.out.below HB.out.b).cr HS.out.cidrs).mono ?_
              rintro e wn18 ⟨Ac, cc, rfl, ho, hb⟩
              dsimp only
              replace HOf := Lib.hid (G.owns_below HOf.out hb)
              replace HOl := Lib.hid (G.owns_below HOl.out hb)
              have HOc := Lib.hid (owns_mono ho HB.out.lt)
              replace HB := Lib.hid (HB.out.call hb)
              clear ho hb
              refine hK.out _ _ (trivial) (fun hHeld => ?_)
              clear hK K
              try simp only [Act.put, s1, s2, s3]
              repeat clear hHeld
              exact key1 _ _ _ _ _ _ _ HB HOf HOl HOc
            exact AllReadyH.nil
          exact AllReadyH.nil
        refine AllReadyH.cons rfl (fun K hK => ?_) ?_
        · rw [if_pos (by rfl)]
          have hcc := (HB.out.cell 7).trans (show _ = some (Value.slice c.A o.cidrs.length c.c) from rfl)
          try simp only [World.cell?_drew] at hcc
          go_simp
          clear hcc
          refine hK.out _ _ (trivial) (fun hHeld => ?_)
          clear hK K
          try simp only [Act.put, s1, s2, s3]
          refine tk 9 12 (.pointer (some ⟨x, 5, none⟩)) ?_
          try simp only [s1, s2, s3]
          refine wpAnyH_ready (rs := [5]) (by kernel_rfl) (by simp) ?_
          refine AllReadyH.cons rfl (fun K hK => ?_) ?_
          · rw [if_pos (by rfl)]
            go_simp
            go_at_call 40
            refine (clone_pair o.labels l.A l.c _ (HR.out.below HB.out.b).lr HS.out.labels).mono ?_
            rintro e wn20 ⟨Al, cl, rfl, ho, hb⟩
            dsimp only
            replace HOf := Lib.hid (G.owns_below HOf.out hb)
            have HOl := Lib.hid (owns_mono ho HB.out.lt)
            replace HB := Lib.hid (HB.out.call hb)
            clear ho hb
            refine hK.out _ _ (trivial) (fun hHeld => ?_)
            clear hK K
            try simp only [Act.put, s1, s2, s3]
            refine wpAnyH_ready (rs := [8]) (by kernel_rfl) (by simp) ?_
            refine AllReadyH.cons rfl (fun K hK => ?_) ?_
            · rw [if_pos (by rfl)]
              go_simp
              go_at_call 30
              refine (clone_str o.cidrs c.A c.c _ (HR.out.below HB.out.b).cr HS.out.cidrs).mono ?_
              rintro e wn21 ⟨Ac, cc, rfl, ho, hb⟩
              dsimp only
              replace HOf := Lib.hid (G.owns_below HOf.out hb)
              replace HOl := Lib.hid (G.owns_below HOl.out hb)
              have HOc := Lib.hid (owns_mono ho HB.out.lt)
              replace HB := Lib.hid (HB.out.call hb)
              clear ho hb
              refine hK.out _ _ (trivial) (fun hHeld => ?_)
              clear hK K
              try simp only [Act.put, s1, s2, s3]
              repeat clear hHeld
              exact key1 _ _ _ _ _ _ _ HB HOf HOl HOc
            exact AllReadyH.nil
          exact AllReadyH.nil
        exact AllReadyH.nil
      refine AllReadyH.cons rfl (fun K hK => ?_) ?_
      · rw [if_pos (by rfl)]
        have hcc := (HB.out.cell 7).trans (show _ = some (Value.slice c.A o.cidrs.length c.c) from rfl)
        try simp only [World.cell?_drew] at hcc
        go_simp
        clear hcc
        refine hK.out _ _ (trivial) (fun hHeld => ?_)
        clear hK K
        try simp only [Act.put, s1, s2, s3]
        refine wpAnyH_ready (rs := [2]) (by kernel_rfl) (by simp) ?_
        refine AllReadyH.cons rfl (fun K hK => ?_) ?_
        · rw [if_pos (by rfl)]
          go_simp
          go_at_call 30
          refine (clone_str o.fins f.A f.c _ (HR.out.below HB.out.b).fr HS.out.fins).mono ?_
          rintro e wn23 ⟨Af, cf, rfl, ho, hb⟩
          dsimp only
          have HOf := Lib.hid (owns_mono ho HB.out.lt)
          replace HB := Lib.hid (HB.out.call hb)
          clear ho hb
          refine hK.out _ _ (trivial) (fun hHeld => ?_)
          clear hK K
          try simp only [Act.put, s1, s2, s3]
          refine tk 9 12 (.pointer (some ⟨x, 5, none⟩)) ?_
          try simp only [s1, s2, s3]
          refine wpAnyH_ready (rs := [5]) (by kernel_rfl) (by simp) ?_
          refine AllReadyH.cons rfl (fun K hK => ?_) ?_
          · rw [if_pos (by rfl)]
            go_simp
            go_at_call 40
            refine (clone_pair o.labels l.A l.c _ (HR.out.below HB.out.b).lr HS.out.labels).mono ?_
            rintro e wn24 ⟨Al, cl, rfl, ho, hb⟩
            dsimp only
            replace HOf := Lib.hid (G.owns_below HOf.out hb)
            have HOl := Lib.hid (owns_mono ho HB.out.lt)
            replace HB := Lib.hid (HB.out.call hb)
            clear ho hb
            refine hK.out _ _ (trivial) (fun hHeld => ?_)
            clear hK K
            try simp only [Act.put, s1, s2, s3]
            refine wpAnyH_ready (rs := [8]) (by kernel_rfl) (by simp) ?_
            refine AllReadyH.cons rfl (fun K hK => ?_) ?_
            · rw [if_pos (by rfl)]
              go_simp
              go_at_call 30
              refine (clone_str o.cidrs c.A c.c _ (HR.out.below HB.out.b).cr HS.out.cidrs).mono ?_
              rintro e wn25 ⟨Ac, cc, rfl, ho, hb⟩
              dsimp only
              replace HOf := Lib.hid (G.owns_below HOf.out hb)
              replace HOl := Lib.hid (G.owns_below HOl.out hb)
              have HOc := Lib.hid (owns_mono ho HB.out.lt)
              replace HB := Lib.hid (HB.out.call hb)
              clear ho hb
              refine hK.out _ _ (trivial) (fun hHeld => ?_)
              clear hK K
              try simp only [Act.put, s1, s2, s3]
              repeat clear hHeld
              exact key1 _ _ _ _ _ _ _ HB HOf HOl HOc
            exact AllReadyH.nil
          exact AllReadyH.nil
        exact AllReadyH.nil
      exact AllReadyH.nil
    refine AllReadyH.cons rfl (fun K hK => ?_) ?_
    · rw [if_pos (by rfl)]
      have hcc := (HB.out.cell 7).trans (show _ = some (Value.slice c.A o.cidrs.length c.c) from rfl)
      try simp only [World.cell?_drew] at hcc
      go_simp
      clear hcc
      refine hK.out _ _ (trivial) (fun hHeld => ?_)
      clear hK K
      try simp only [Act.put, s1, s2, s3]
      refine wpAnyH_ready (rs := [2, 4]) (by kernel_rfl) (by simp) ?_
      refine AllReadyH.cons rfl (fun K hK => ?_) ?_
      · rw [if_pos (by rfl)]
        go_simp
        go_at_call 30
        refine (clone_str o.fins f.A f.c _ (HR.out.below HB.out.b).fr HS.out.fins).mono ?_
        rintro e wn27 ⟨Af, cf, rfl, ho, hb⟩
        dsimp only
        have HOf := Lib.hid (owns_mono ho HB.out.lt)
        replace HB := Lib.hid (HB.out.call hb)
        clear ho hb
        refine hK.out _ _ (trivial) (fun hHeld => ?_)
        clear hK K
        try simp only [Act.put, s1, s2, s3]
        refine wpAnyH_ready (rs := [4]) (by kernel_rfl) (by simp) ?_
        refine AllReadyH.cons rfl (fun K hK => ?_) ?_
        · rw [if_pos (by rfl)]
          have hcc := (HB.out.cell 6).trans (show _ = some (Value.slice l.A o.labels.length l.c) from rfl)
          try simp only [World.cell?_drew] at hcc
          go_simp
          clear hcc
          refine hK.out _ _ (trivial) (fun hHeld => ?_)
          clear hK K
          try simp only [Act.put, s1, s2, s3]
          refine tk 9 12 (.pointer (some ⟨x, 5, none⟩)) ?_
          try simp only [s1, s2, s3]
          refine wpAnyH_ready (rs := [5]) (by kernel_rfl) (by simp) ?_
          refine AllReadyH.cons rfl (fun K hK => ?_) ?_
          · rw [if_pos (by rfl)]
            go_simp
            go_at_call 40
            refine (clone_pair o.labels l.A l.c _ (HR.out.below HB.out.b).lr HS.out.labels).mono ?_
            rintro e wn29 ⟨Al, cl, rfl, ho, hb⟩
            dsimp only
            replace HOf := Lib.hid (G.owns_below HOf.out hb)
            have HOl := Lib.hid (owns_mono ho HB.out.lt)
            replace HB := Lib.hid (HB.out.call hb)
            clear ho hb
            refine hK.out _ _ (trivial) (fun hHeld => ?_)
            clear hK K
            try simp only [Act.put, s1, s2, s3]
            refine wpAnyH_ready (rs := [8]) (by kernel_rfl) (by simp) ?_
            refine AllReadyH.cons rfl (fun K hK => ?_) ?_
            · rw [if_pos (by rfl)]
              go_simp
              go_at_call 30
              refine (clone_str o.cidrs c.A c.c _ (HR.out.below HB.out.b).cr HS.out.cidrs).mono ?_
              rintro e wn30 ⟨Ac, cc, rfl, ho, hb⟩
              dsimp only
              replace HOf := Lib.hid (G.owns_below HOf.out hb)
              replace HOl := Lib.hid (G.owns_below HOl.out hb)
              have HOc := Lib.hid (owns_mono ho HB.out.lt)
              replace HB := Lib.hid (HB.out.call hb)
              clear ho hb
              refine hK.out _ _ (trivial) (fun hHeld => ?_)
              clear hK K
              try simp only [Act.put, s1, s2, s3]
              repeat clear hHeld
              exact key1 _ _ _ _ _ _ _ HB HOf HOl HOc
            exact AllReadyH.nil
          exact AllReadyH.nil
        exact AllReadyH.nil
      refine AllReadyH.cons rfl (fun K hK => ?_) ?_
      · rw [if_pos (by rfl)]
        have hcc := (HB.out.cell 6).trans (show _ = some (Value.slice l.A o.labels.length l.c) from rfl)
        try simp only [World.cell?_drew] at hcc
        go_simp
        clear hcc
        refine hK.out _ _ (trivial) (fun hHeld => ?_)
        clear hK K
        try simp only [Act.put, s1, s2, s3]
        refine wpAnyH_ready (rs := [2]) (by kernel_rfl) (by simp) ?_
        refine AllReadyH.cons rfl (fun K hK => ?_) ?_
        · rw [if_pos (by rfl)]
          go_simp
          go_at_call 30
          refine (clone_str o.fins f.A f.c _ (HR.out.below HB.out.b).fr HS.out.fins).mono ?_
          rintro e wn32 ⟨Af, cf, rfl, ho, hb⟩
          dsimp only
          have HOf := Lib.hid (owns_mono ho HB.out.lt)
          replace HB := Lib.hid (HB.out.call hb)
          clear ho hb
          refine hK.out _ _ (trivial) (fun hHeld => ?_)
          clear hK K
          try simp only [Act.put, s1, s2, s3]
          refine tk 9 12 (.pointer (some ⟨x, 5, none⟩)) ?_
          try simp only [s1, s2, s3]
          refine wpAnyH_ready (rs := [5]) (by kernel_rfl) (by simp) ?_
          refine AllReadyH.cons rfl (fun K hK => ?_) ?_
          · rw [if_pos (by rfl)]
            go_simp
            go_at_call 40
            refine (clone_pair o.labels l.A l.c _ (HR.out.below HB.out.b).lr HS.out.labels).mono ?_
            rintro e wn33 ⟨Al, cl, rfl, ho, hb⟩
            dsimp only
            replace HOf := Lib.hid (G.owns_below HOf.out hb)
            have HOl := Lib.hid (owns_mono ho HB.out.lt)
            replace HB := Lib.hid (HB.out.call hb)
            clear ho hb
            refine hK.out _ _ (trivial) (fun hHeld => ?_)
            clear hK K
            try simp only [Act.put, s1, s2, s3]
            refine wpAnyH_ready (rs := [8]) (by kernel_rfl) (by simp) ?_
            refine AllReadyH.cons rfl (fun K hK => ?_) ?_
            · rw [if_pos (by rfl)]
              go_simp
              go_at_call 30
              refine (clone_str o.cidrs c.A c.c _ (HR.out.below HB.out.b).cr HS.out.cidrs).mono ?_
              rintro e wn34 ⟨Ac, cc, rfl, ho, hb⟩
              dsimp only
              replace HOf := Lib.hid (G.owns_below HOf.out hb)
              replace HOl := Lib.hid (G.owns_below HOl.out hb)
              have HOc := Lib.hid (owns_mono ho HB.out.lt)
              replace HB := Lib.hid (HB.out.call hb)
              clear ho hb
              refine hK.out _ _ (trivial) (fun hHeld => ?_)
              clear hK K
              try simp only [Act.put, s1, s2, s3]
              repeat clear hHeld
              exact key1 _ _ _ _ _ _ _ HB HOf HOl HOc
            exact AllReadyH.nil
          exact AllReadyH.nil
        exact AllReadyH.nil
      exact AllReadyH.nil
    exact AllReadyH.nil
  refine AllReadyH.cons rfl (fun K hK => ?_) ?_
  · rw [if_pos (by rfl)]
    have hcc := (HB.out.cell 6).trans (show _ = some (Value.slice l.A o.labels.length l.c) from rfl)
    try simp only [World.cell?_drew] at hcc
    go_simp
    clear hcc
    refine hK.out _ _ (trivial) (fun hHeld => ?_)
    clear hK K
    try simp only [Act.put, s1, s2, s3]
    refine wpAnyH_ready (rs := [1, 7]) (by kernel_rfl) (by simp) ?_
    refine AllReadyH.cons rfl (fun K hK => ?_) ?_
    · rw [if_pos (by rfl)]
      have hcc := (HB.out.cell 5).trans (show _ = some (Value.slice f.A o.fins.length f.c) from rfl)
      try simp only [World.cell?_drew] at hcc
      go_simp
      clear hcc
      refine hK.out _ _ (trivial) (fun hHeld => ?_)
      clear hK K
      try simp only [Act.put, s1, s2, s3]
      refine wpAnyH_ready (rs := [2, 7]) (by kernel_rfl) (by simp) ?_
      refine AllReadyH.cons rfl (fun K hK => ?_) ?_
      · rw [if_pos (by rfl)]
        go_simp
        go_at_call 30
        refine (clone_str o.fins f.A f.c _ (HR.out.below HB.out.b).fr HS.out.fins).mono ?_
        rintro e wn37 ⟨Af, cf, rfl, ho, hb⟩
        dsimp only
        have HOf := Lib.hid (owns_mono ho HB.out.lt)
        replace HB := Lib.hid (HB.out.call hb)
        clear ho hb
        refine hK.out _ _ (trivial) (fun hHeld => ?_)
        clear hK K
        try simp only [Act.put, s1, s2, s3]
        refine wpAnyH_ready (rs := [5, 7]) (by kernel_rfl) (by simp) ?_
        refine AllReadyH.cons rfl (fun K hK => ?_) ?_
        · rw [if_pos (by rfl)]
          go_simp
          go_at_call 40
          refine (clone_pair o.labels l.A l.c _ (HR.out.below HB.out.b).lr HS.out.labels).mono ?_
          rintro e wn38 ⟨Al, cl, rfl, ho, hb⟩
          dsimp only
          replace HOf := Lib.hid (G.owns_below HOf.out hb)
          have HOl := Lib.hid (owns_mono ho HB.out.lt)
          replace HB := Lib.hid (HB.out.call hb)
          clear ho hb
          refine hK.out _ _ (trivial) (fun hHeld => ?_)
          clear hK K
          try simp only [Act.put, s1, s2, s3]
          refine wpAnyH_ready (rs := [7]) (by kernel_rfl) (by simp) ?_
          refine AllReadyH.cons rfl (fun K hK => ?_) ?_
          · rw [if_pos (by rfl)]
            have hcc := (HB.out.cell 7).trans (show _ = some (Value.slice c.A o.cidrs.length c.c) from rfl)
            try simp only [World.cell?_drew] at hcc
            go_simp
            clear hcc
            refine hK.out _ _ (trivial) (fun hHeld => ?_)
            clear hK K
            try simp only [Act.put, s1, s2, s3]
            refine tk 9 12 (.pointer (some ⟨x, 5, none⟩)) ?_
            try simp only [s1, s2, s3]
            refine wpAnyH_ready (rs := [8]) (by kernel_rfl) (by simp) ?_
            refine AllReadyH.cons rfl (fun K hK => ?_) ?_
            · rw [if_pos (by rfl)]
              go_simp
              go_at_call 30
              refine (clone_str o.cidrs c.A c.c _ (HR.out.below HB.out.b).cr HS.out.cidrs).mono ?_
              rintro e wn40 ⟨Ac, cc, rfl, ho, hb⟩
              dsimp only
              replace HOf := Lib.hid (G.owns_below HOf.out hb)
              replace HOl := Lib.hid (G.owns_below HOl.out hb)
              have HOc := Lib.hid (owns_mono ho HB.out.lt)
              replace HB := Lib.hid (HB.out.call hb)
              clear ho hb
              refine hK.out _ _ (trivial) (fun hHeld => ?_)
              clear hK K
              try simp only [Act.put, s1, s2, s3]
              repeat clear hHeld
              exact key1 _ _ _ _ _ _ _ HB HOf HOl HOc
            exact AllReadyH.nil
          exact AllReadyH.nil
        refine AllReadyH.cons rfl (fun K hK => ?_) ?_
        · rw [if_pos (by rfl)]
          have hcc := (HB.out.cell 7).trans (show _ = some (Value.slice c.A o.cidrs.length c.c) from rfl)
          try simp only [World.cell?_drew] at hcc
          go_simp
          clear hcc
          refine hK.out _ _ (trivial) (fun hHeld => ?_)
          clear hK K
          try simp only [Act.put, s1, s2, s3]
          refine tk 9 12 (.pointer (some ⟨x, 5, none⟩)) ?_
          try simp only [s1, s2, s3]
          refine wpAnyH_ready (rs := [5]) (by kernel_rfl) (by simp) ?_
          refine AllReadyH.cons rfl (fun K hK => ?_) ?_
          · rw [if_pos (by rfl)]
            go_simp
            go_at_call 40
            refine (clone_pair o.labels l.A l.c _ (HR.out.below HB.out.b).lr HS.out.labels).mono ?_
            rintro e wn42 ⟨Al, cl, rfl, ho, hb⟩
            dsimp only
            replace HOf := Lib.hid (G.owns_below HOf.out hb)
            have HOl := Lib.hid (owns_mono ho HB.out.lt)
            replace HB := Lib.hid (HB.out.call hb)
            clear ho hb
            refine hK.out _ _ (trivial) (fun hHeld => ?_)
            clear hK K
            try simp only [Act.put, s1, s2, s3]
            refine wpAnyH_ready (rs := [8]) (by kernel_rfl) (by simp) ?_
            refine AllReadyH.cons rfl (fun K hK => ?_) ?_
            · rw [if_pos (by rfl)]
              go_simp
              go_at_call 30
              refine (clone_str o.cidrs c.A c.c _ (HR.out.below HB.out.b).cr HS.out.cidrs).mono ?_
              rintro e wn43 ⟨Ac, cc, rfl, ho, hb⟩
              dsimp only
              replace HOf := Lib.hid (G.owns_below HOf.out hb)
              replace HOl := Lib.hid (G.owns_below HOl.out hb)
              have HOc := Lib.hid (owns_mono ho HB.out.lt)
              replace HB := Lib.hid (HB.out.call hb)
              clear ho hb
              refine hK.out _ _ (trivial) (fun hHeld => ?_)
              clear hK K
              try simp only [Act.put, s1, s2, s3]
              repeat clear hHeld
              exact key1 _ _ _ _ _ _ _ HB HOf HOl HOc
            exact AllReadyH.nil
          exact AllReadyH.nil
        exact AllReadyH.nil
      refine AllReadyH.cons rfl (fun K hK => ?_) ?_
      · rw [if_pos (by rfl)]
        have hcc := (HB.out.cell 7).trans (show _ = some (Value.slice c.A o.cidrs.length c.c) from rfl)
        try simp only [World.cell?_drew] at hcc
        go_simp
        clear hcc
        refine hK.out _ _ (trivial) (fun hHeld => ?_)
        clear hK K
        try simp only [Act.put, s1, s2, s3]
        refine wpAnyH_ready (rs := [2]) (by kernel_rfl) (by simp) ?_
        refine AllReadyH.cons rfl (fun K hK => ?_) ?_
        · rw [if_pos (by rfl)]
          go_simp
          go_at_call 30
          refine (clone_str o.fins f.A f.c _ (HR.out.below HB.out.b).fr HS.out.fins).mono ?_
          rintro e wn45 ⟨Af, cf, rfl, ho, hb⟩
          dsimp only
          have HOf := Lib.hid (owns_mono ho HB.out.lt)
          replace HB := Lib.hid (HB.out.call hb)
          clear ho hb
          refine hK.out _ _ (trivial) (fun hHeld => ?_)
          clear hK K
          try simp only [Act.put, s1, s2, s3]
          refine tk 9 12 (.pointer (some ⟨x, 5, none⟩)) ?_
          try simp only [s1, s2, s3]
          refine wpAnyH_ready (rs := [5]) (by kernel_rfl) (by simp) ?_
          refine AllReadyH.cons rfl (fun K hK => ?_) ?_
          · rw [if_pos (by rfl)]
            go_simp
            go_at_call 40
            refine (clone_pair o.labels l.A l.c _ (HR.out.below HB.out.b).lr HS.out.labels).mono ?_
            rintro e wn46 ⟨Al, cl, rfl, ho, hb⟩
            dsimp only
            replace HOf := Lib.hid (G.owns_below HOf.out hb)
            have HOl := Lib.hid (owns_mono ho HB.out.lt)
            replace HB := Lib.hid (HB.out.call hb)
            clear ho hb
            refine hK.out _ _ (trivial) (fun hHeld => ?_)
            clear hK K
            try simp only [Act.put, s1, s2, s3]
            refine wpAnyH_ready (rs := [8]) (by kernel_rfl) (by simp) ?_
            refine AllReadyH.cons rfl (fun K hK => ?_) ?_
            · rw [if_pos (by rfl)]
              go_simp
              go_at_call 30
              refine (clone_str o.cidrs c.A c.c _ (HR.out.below HB.out.b).cr HS.out.cidrs).mono ?_
              rintro e wn47 ⟨Ac, cc, rfl, ho, hb⟩
              dsimp only
              replace HOf := Lib.hid (G.owns_below HOf.out hb)
              replace HOl := Lib.hid (G.owns_below HOl.out hb)
              have HOc := Lib.hid (owns_mono ho HB.out.lt)
              replace HB := Lib.hid (HB.out.call hb)
              clear ho hb
              refine hK.out _ _ (trivial) (fun hHeld => ?_)
              clear hK K
              try simp only [Act.put, s1, s2, s3]
              repeat clear hHeld
              exact key1 _ _ _ _ _ _ _ HB HOf HOl HOc
            exact AllReadyH.nil
          exact AllReadyH.nil
        exact AllReadyH.nil
      exact AllReadyH.nil
    refine AllReadyH.cons rfl (fun K hK => ?_) ?_
    · rw [if_pos (by rfl)]
      have hcc := (HB.out.cell 7).trans (show _ = some (Value.slice c.A o.cidrs.length c.c) from rfl)
      try simp only [World.cell?_drew] at hcc
      go_simp
      clear hcc
      refine hK.out _ _ (trivial) (fun hHeld => ?_)
      clear hK K
      try simp only [Act.put, s1, s2, s3]
      refine wpAnyH_ready (rs := [1]) (by kernel_rfl) (by simp) ?_
      refine AllReadyH.cons rfl (fun K hK => ?_) ?_
      · rw [if_pos (by rfl)]
        have hcc := (HB.out.cell 5).trans (show _ = some (Value.slice f.A o.fins.length f.c) from rfl)
        try simp only [World.cell?_drew] at hcc
        go_simp
        clear hcc
        refine hK.out _ _ (trivial) (fun hHeld => ?_)
        clear hK K
        try simp only [Act.put, s1, s2, s3]
        refine wpAnyH_ready (rs := [2]) (by kernel_rfl) (by simp) ?_
        refine AllReadyH.cons rfl (fun K hK => ?_) ?_
        · rw [if_pos (by rfl)]
          go_simp
          go_at_call 30
          refine (clone_str o.fins f.A f.c _ (HR.out.below HB.out.b).fr HS.out.fins).mono ?_
          rintro e wn50 ⟨Af, cf, rfl, ho, hb⟩
          dsimp only
          have HOf := Lib.hid (owns_mono ho HB.out.lt)
          replace HB := Lib.hid (HB.out.call hb)
          clear ho hb
          refine hK.out _ _ (trivial) (fun hHeld => ?_)
          clear hK K
          try simp only [Act.put, s1, s2, s3]
          refine tk 9 12 (.pointer (some ⟨x, 5, none⟩)) ?_
          try simp only [s1, s2, s3]
          refine wpAnyH_ready (rs := [5]) (by kernel_rfl) (by simp) ?_
          refine AllReadyH.cons rfl (fun K hK => ?_) ?_
          · rw [if_pos (by rfl)]
            go_simp
            go_at_call 40
            refine (clone_pair o.labels l.A l.c _ (HR.out.below HB.out.b).lr HS.out.labels).mono ?_
            rintro e wn51 ⟨Al, cl, rfl, ho, hb⟩
            dsimp only
            replace HOf := Lib.hid (G.owns_below HOf.out hb)
            have HOl := Lib.hid (owns_mono ho HB.out.lt)
            replace HB := Lib.hid (HB.out.call hb)
            clear ho hb
            refine hK.out _ _ (trivial) (fun hHeld => ?_)
            clear hK K
            try simp only [Act.put, s1, s2, s3]
            refine wpAnyH_ready (rs := [8]) (by kernel_rfl) (by simp) ?_
            refine AllReadyH.cons rfl (fun K hK => ?_) ?_
            · rw [if_pos (by rfl)]
              go_simp
              go_at_call 30
              refine (clone_str o.cidrs c.A c.c _ (HR.out.below HB.out.b).cr HS.out.cidrs).mono ?_
              rintro e wn52 ⟨Ac, cc, rfl, ho, hb⟩
              dsimp only
              replace HOf := Lib.hid (G.owns_below HOf.out hb)
              replace HOl := Lib.hid (G.owns_below HOl.out hb)
              have HOc := Lib.hid (owns_mono ho HB.out.lt)
              replace HB := Lib.hid (HB.out.call hb)
              clear ho hb
              refine hK.out _ _ (trivial) (fun hHeld => ?_)
              clear hK K
              try simp only [Act.put, s1, s2, s3]
              repeat clear hHeld
              exact key1 _ _ _ _ _ _ _ HB HOf HOl HOc
            exact AllReadyH.nil
          exact AllReadyH.nil
        exact AllReadyH.nil
      exact AllReadyH.nil
    exact AllReadyH.nil
  refine AllReadyH.cons rfl (fun K hK => ?_) ?_
  · rw [if_pos (by rfl)]
    have hcc := (HB.out.cell 7).trans (show _ = some (Value.slice c.A o.cidrs.length c.c) from rfl)
    try simp only [World.cell?_drew] at hcc
    go_simp
    clear hcc
    refine hK.out _ _ (trivial) (fun hHeld => ?_)
    clear hK K
    try simp only [Act.put, s1, s2, s3]
    refine wpAnyH_ready (rs := [1, 4]) (by kernel_rfl) (by simp) ?_
    refine AllReadyH.cons rfl (fun K hK => ?_) ?_
    · rw [if_pos (by rfl)]
      have hcc := (HB.out.cell 5).trans (show _ = some (Value.slice f.A o.fins.length f.c) from rfl)
      try simp only [World.cell?_drew] at hcc
      go_simp
      clear hcc
      refine hK.out _ _ (trivial) (fun hHeld => ?_)
      clear hK K
      try simp only [Act.put, s1, s2, s3]
      refine wpAnyH_ready (rs := [2, 4]) (by kernel_rfl) (by simp) ?_
      refine AllReadyH.cons rfl (fun K hK => ?_) ?_
      · rw [if_pos (by rfl)]
        go_simp
        go_at_call 30
        refine (clone_str o.fins f.A f.c _ (HR.out.below HB.out.b).fr HS.out.fins).mono ?_
        rintro e wn55 ⟨Af, cf, rfl, ho, hb⟩
        dsimp only
        have HOf := Lib.hid (owns_mono ho HB.out.lt)
        replace HB := Lib.hid (HB.out.call hb)
        clear ho hb
        refine hK.out _ _ (trivial) (fun hHeld => ?_)
        clear hK K
        try simp only [Act.put, s1, s2, s3]
        refine wpAnyH_ready (rs := [4]) (by kernel_rfl) (by simp) ?_
        refine AllReadyH.cons rfl (fun K hK => ?_) ?_
        · rw [if_pos (by rfl)]
          have hcc := (HB.out.cell 6).trans (show _ = some (Value.slice l.A o.labels.length l.c) from rfl)
          try simp only [World.cell?_drew] at hcc
          go_simp
          clear hcc
          refine hK.out _ _ (trivial) (fun hHeld => ?_)
          clear hK K
          try simp only [Act.put, s1, s2, s3]
          refine tk 9 12 (.pointer (some ⟨x, 5, none⟩)) ?_
          try simp only [s1, s2, s3]
          refine wpAnyH_ready (rs := [5]) (by kernel_rfl) (by simp) ?_
          refine AllReadyH.cons rfl (fun K hK => ?_) ?_
          · rw [if_pos (by rfl)]
            go_simp
            go_at_call 40
            refine (clone_pair o.labels l.A l.c _ (HR.out.below HB.out.b).lr HS.out.labels).mono ?_
            rintro e wn57 ⟨Al, cl, rfl, ho, hb⟩
            dsimp only
            replace HOf := Lib.hid (G.owns_below HOf.out hb)
            have HOl := Lib.hid (owns_mono ho HB.out.lt)
            replace HB := Lib.hid (HB.out.call hb)
            clear ho hb
            refine hK.out _ _ (trivial) (fun hHeld => ?_)
            clear hK K
            try simp only [Act.put, s1, s2, s3]
            refine wpAnyH_ready (rs := [8]) (by kernel_rfl) (by simp) ?_
            refine AllReadyH.cons rfl (fun K hK => ?_) ?_
            · rw [if_pos (by rfl)]
              go_simp
              go_at_call 30
              refine (clone_str o.cidrs c.A c.c _ (HR.out.below HB.out.b).cr HS.out.cidrs).mono ?_
              rintro e wn58 ⟨Ac, cc, rfl, ho, hb⟩
              dsimp only
              replace HOf := Lib.hid (G.owns_below HOf.out hb)
              replace HOl := Lib.hid (G.owns_below HOl.out hb)
              have HOc := Lib.hid (owns_mono ho HB.out.lt)
              replace HB := Lib.hid (HB.out.call hb)
              clear ho hb
              refine hK.out _ _ (trivial) (fun hHeld => ?_)
              clear hK K
              try simp only [Act.put, s1, s2, s3]
              repeat clear hHeld
              exact key1 _ _ _ _ _ _ _ HB HOf HOl HOc
            exact AllReadyH.nil
          exact AllReadyH.nil
        exact AllReadyH.nil
      refine AllReadyH.cons rfl (fun K hK => ?_) ?_
      · rw [if_pos (by rfl)]
        have hcc := (HB.out.cell 6).trans (show _ = some (Value.slice l.A o.labels.length l.c) from rfl)
        try simp only [World.cell?_drew] at hcc
        go_simp
        clear hcc
        refine hK.out _ _ (trivial) (fun hHeld => ?_)
        clear hK K
        try simp only [Act.put, s1, s2, s3]
        refine wpAnyH_ready (rs := [2]) (by kernel_rfl) (by simp) ?_
        refine AllReadyH.cons rfl (fun K hK => ?_) ?_
        · rw [if_pos (by rfl)]
          go_simp
          go_at_call 30
          refine (clone_str o.fins f.A f.c _ (HR.out.below HB.out.b).fr HS.out.fins).mono ?_
          rintro e wn60 ⟨Af, cf, rfl, ho, hb⟩
          dsimp only
          have HOf := Lib.hid (owns_mono ho HB.out.lt)
          replace HB := Lib.hid (HB.out.call hb)
          clear ho hb
          refine hK.out _ _ (trivial) (fun hHeld => ?_)
          clear hK K
          try simp only [Act.put, s1, s2, s3]
          refine tk 9 12 (.pointer (some ⟨x, 5, none⟩)) ?_
          try simp only [s1, s2, s3]
          refine wpAnyH_ready (rs := [5]) (by kernel_rfl) (by simp) ?_
          refine AllReadyH.cons rfl (fun K hK => ?_) ?_
          · rw [if_pos (by rfl)]
            go_simp
            go_at_call 40
            refine (clone_pair o.labels l.A l.c _ (HR.out.below HB.out.b).lr HS.out.labels).mono ?_
            rintro e wn61 ⟨Al, cl, rfl, ho, hb⟩
            dsimp only
            replace HOf := Lib.hid (G.owns_below HOf.out hb)
            have HOl := Lib.hid (owns_mono ho HB.out.lt)
            replace HB := Lib.hid (HB.out.call hb)
            clear ho hb
            refine hK.out _ _ (trivial) (fun hHeld => ?_)
            clear hK K
            try simp only [Act.put, s1, s2, s3]
            refine wpAnyH_ready (rs := [8]) (by kernel_rfl) (by simp) ?_
            refine AllReadyH.cons rfl (fun K hK => ?_) ?_
            · rw [if_pos (by rfl)]
              go_simp
              go_at_call 30
              refine (clone_str o.cidrs c.A c.c _ (HR.out.below HB.out.b).cr HS.out.cidrs).mono ?_
              rintro e wn62 ⟨Ac, cc, rfl, ho, hb⟩
              dsimp only
              replace HOf := Lib.hid (G.owns_below HOf.out hb)
              replace HOl := Lib.hid (G.owns_below HOl.out hb)
              have HOc := Lib.hid (owns_mono ho HB.out.lt)
              replace HB := Lib.hid (HB.out.call hb)
              clear ho hb
              refine hK.out _ _ (trivial) (fun hHeld => ?_)
              clear hK K
              try simp only [Act.put, s1, s2, s3]
              repeat clear hHeld
              exact key1 _ _ _ _ _ _ _ HB HOf HOl HOc
            exact AllReadyH.nil
          exact AllReadyH.nil
        exact AllReadyH.nil
      exact AllReadyH.nil
    refine AllReadyH.cons rfl (fun K hK => ?_) ?_
    · rw [if_pos (by rfl)]
      have hcc := (HB.out.cell 6).trans (show _ = some (Value.slice l.A o.labels.length l.c) from rfl)
      try simp only [World.cell?_drew] at hcc
      go_simp
      clear hcc
      refine hK.out _ _ (trivial) (fun hHeld => ?_)
      clear hK K
      try simp only [Act.put, s1, s2, s3]
      refine wpAnyH_ready (rs := [1]) (by kernel_rfl) (by simp) ?_
      refine AllReadyH.cons rfl (fun K hK => ?_) ?_
      · rw [if_pos (by rfl)]
        have hcc := (HB.out.cell 5).trans (show _ = some (Value.slice f.A o.fins.length f.c) from rfl)
        try simp only [World.cell?_drew] at hcc
        go_simp
        clear hcc
        refine hK.out _ _ (trivial) (fun hHeld => ?_)
        clear hK K
        try simp only [Act.put, s1, s2, s3]
        refine wpAnyH_ready (rs := [2]) (by kernel_rfl) (by simp) ?_
        refine AllReadyH.cons rfl (fun K hK => ?_) ?_
        · rw [if_pos (by rfl)]
          go_simp
          go_at_call 30
          refine (clone_str o.fins f.A f.c _ (HR.out.below HB.out.b).fr HS.out.fins).mono ?_
          rintro e wn65 ⟨Af, cf, rfl, ho, hb⟩
          dsimp only
          have HOf := Lib.hid (owns_mono ho HB.out.lt)
          replace HB := Lib.hid (HB.out.call hb)
          clear ho hb
          refine hK.out _ _ (trivial) (fun hHeld => ?_)
          clear hK K
          try simp only [Act.put, s1, s2, s3]
          refine tk 9 12 (.pointer (some ⟨x, 5, none⟩)) ?_
          try simp only [s1, s2, s3]
          refine wpAnyH_ready (rs := [5]) (by kernel_rfl) (by simp) ?_
          refine AllReadyH.cons rfl (fun K hK => ?_) ?_
          · rw [if_pos (by rfl)]
            go_simp
            go_at_call 40
            refine (clone_pair o.labels l.A l.c _ (HR.out.below HB.out.b).lr HS.out.labels).mono ?_
            rintro e wn66 ⟨Al, cl, rfl, ho, hb⟩
            dsimp only
            replace HOf := Lib.hid (G.owns_below HOf.out hb)
            have HOl := Lib.hid (owns_mono ho HB.out.lt)
            replace HB := Lib.hid (HB.out.call hb)
            clear ho hb
            refine hK.out _ _ (trivial) (fun hHeld => ?_)
            clear hK K
            try simp only [Act.put, s1, s2, s3]
            refine wpAnyH_ready (rs := [8]) (by kernel_rfl) (by simp) ?_
            refine AllReadyH.cons rfl (fun K hK => ?_) ?_
            · rw [if_pos (by rfl)]
              go_simp
              go_at_call 30
              refine (clone_str o.cidrs c.A c.c _ (HR.out.below HB.out.b).cr HS.out.cidrs).mono ?_
              rintro e wn67 ⟨Ac, cc, rfl, ho, hb⟩
              dsimp only
              replace HOf := Lib.hid (G.owns_below HOf.out hb)
              replace HOl := Lib.hid (G.owns_below HOl.out hb)
              have HOc := Lib.hid (owns_mono ho HB.out.lt)
              replace HB := Lib.hid (HB.out.call hb)
              clear ho hb
              refine hK.out _ _ (trivial) (fun hHeld => ?_)
              clear hK K
              try simp only [Act.put, s1, s2, s3]
              repeat clear hHeld
              exact key1 _ _ _ _ _ _ _ HB HOf HOl HOc
            exact AllReadyH.nil
          exact AllReadyH.nil
        exact AllReadyH.nil
      exact AllReadyH.nil
    exact AllReadyH.nil
  exact AllReadyH.nil
  case later1 =>
    intro V Af Al Ac cf cl cc HB HOf HOl HOc
    have key1b : ∀ V : World, Hid (ClS w w1 x y ((((oc o f l c p i).setIfInBounds 5 (.slice Af o.fins.length cf)).setIfInBounds 6 (.slice Al o.labels.length cl)).setIfInBounds 7 (.slice Ac o.cidrs.length cc)) V) → Hid (V.ownsRow w1.heap.size 9 1 (.slice Af o.fins.length cf) o.fins.length (o.fins.flatMap cS)) → Hid (V.ownsRow w1.heap.size 78 2 (.slice Al o.labels.length cl) o.labels.length (o.labels.flatMap cP)) → Hid (V.ownsRow w1.heap.size 9 1 (.slice Ac o.cidrs.length cc) o.cidrs.length (o.cidrs.flatMap cS)) → (?T1b : World → Prop) V := ?later1b
    refine wpAnyH_ready (rs := [10]) (by kernel_rfl) (by simp) ?_
    refine AllReadyH.cons rfl (fun K hK => ?_) ?_
    · rw [if_pos (by rfl)]
      obtain ⟨u0, hcc⟩ := HB.out.some 5 (by decide)
      have hcf := HB.out.free 5
      go_simp
      clear hcc hcf
      replace HOf := Lib.hid (owns_set HOf.out HB.out.xl 5 (.slice Af o.fins.length cf))
      replace HOl := Lib.hid (owns_set HOl.out HB.out.xl 5 (.slice Af o.fins.length cf))
      replace HOc := Lib.hid (owns_set HOc.out HB.out.xl 5 (.slice Af o.fins.length cf))
      replace HB := Lib.hid (HB.out.set 5 (.slice Af o.fins.length cf))
      generalize World.setCell _ _ _ = wn1 at HB HOf HOl HOc ⊢
      refine hK.out _ _ (trivial) (fun hHeld => ?_)
      clear hK K
      try simp only [Act.put, s1, s2, s3]
      refine tk 11 13 (.pointer (some ⟨x, 6, none⟩)) ?_
      try simp only [s1, s2, s3]
      refine wpAnyH_ready (rs := [12]) (by kernel_rfl) (by simp) ?_
      refine AllReadyH.cons rfl (fun K hK => ?_) ?_
      · rw [if_pos (by rfl)]
        obtain ⟨u0, hcc⟩ := HB.out.some 6 (by decide)
        have hcf := HB.out.free 6
        go_simp
        clear hcc hcf
        replace HOf := Lib.hid (owns_set HOf.out HB.out.xl 6 (.slice Al o.labels.length cl))
        replace HOl := Lib.hid (owns_set HOl.out HB.out.xl 6 (.slice Al o.labels.length cl))
        replace HOc := Lib.hid (owns_set HOc.out HB.out.xl 6 (.slice Al o.labels.length cl))
        replace HB := Lib.hid (HB.out.set 6 (.slice Al o.labels.length cl))
        generalize World.setCell _ _ _ = wn2 at HB HOf HOl HOc ⊢
        refine hK.out _ _ (trivial) (fun hHeld => ?_)
        clear hK K
        try simp only [Act.put, s1, s2, s3]
        refine tk 13 14 (.pointer (some ⟨x, 7, none⟩)) ?_
        try simp only [s1, s2, s3]
        refine wpAnyH_ready (rs := [14]) (by kernel_rfl) (by simp) ?_
        refine AllReadyH.cons rfl (fun K hK => ?_) ?_
        · rw [if_pos (by rfl)]
          obtain ⟨u0, hcc⟩ := HB.out.some 7 (by decide)
          have hcf := HB.out.free 7
          go_simp
          clear hcc hcf
          replace HOf := Lib.hid (owns_set HOf.out HB.out.xl 7 (.slice Ac o.cidrs.length cc))
          replace HOl := Lib.hid (owns_set HOl.out HB.out.xl 7 (.slice Ac o.cidrs.length cc))
          replace HOc := Lib.hid (owns_set HOc.out HB.out.xl 7 (.slice Ac o.cidrs.length cc))
          replace HB := Lib.hid (HB.out.set 7 (.slice Ac o.cidrs.length cc))
          generalize World.setCell _ _ _ = wn3 at HB HOf HOl HOc ⊢
          refine hK.out _ _ (trivial) (fun hHeld => ?_)
          clear hK K
          try simp only [Act.put, s1, s2, s3]
          refine wpAnyH_done (by kernel_rfl) ?_ _
          repeat clear hHeld
          try clear hS0
          exact key1b _ HB HOf HOl HOc
        exact AllReadyH.nil
      exact AllReadyH.nil
    exact AllReadyH.nil
    case later1b =>
    intro V HB HOf HOl HOc
    try clear hS0
    go_upto_region 2 with (fail)
    replace HB := Lib.hid (show ClS w w1 x y _ V.drew from ⟨HB.out.hx, HB.out.hy, G.bdrew HB.out.b, HB.out.lt, HB.out.xl, HB.out.yl, HB.out.xy, HB.out.xw, HB.out.sz⟩)
    replace HOf := Lib.hid (show World.ownsRow V.drew _ _ _ _ _ _ from HOf.out)
    replace HOl := Lib.hid (show World.ownsRow V.drew _ _ _ _ _ _ from HOl.out)
    replace HOc := Lib.hid (show World.ownsRow V.drew _ _ _ _ _ _ from HOc.out)
    have key2 : ∀ (V : World) (Ap Ai : Option Addr) (cp ci : Nat), Hid (ClS w w1 x y ((((oc o f l c p i).setIfInBounds 5 (.slice Af o.fins.length cf)).setIfInBounds 6 (.slice Al o.labels.length cl)).setIfInBounds 7 (.slice Ac o.cidrs.length cc)) V) → Hid (V.ownsRow w1.heap.size 9 1 (.slice Af o.fins.length cf) o.fins.length (o.fins.flatMap cS)) → Hid (V.ownsRow w1.heap.size 78 2 (.slice Al o.labels.length cl) o.labels.length (o.labels.flatMap cP)) → Hid (V.ownsRow w1.heap.size 9 1 (.slice Ac o.cidrs.length cc) o.cidrs.length (o.cidrs.flatMap cS)) → Hid (V.ownsRow w1.heap.size 3 1 (.slice Ap o.fams.length cp) o.fams.length (o.fams.flatMap cI)) → Hid (V.ownsRow w1.heap.size 9 1 (.slice Ai o.ips.length ci) o.ips.length (o.ips.flatMap cS)) → (?T2 : World → Option Addr → Option Addr → Nat → Nat → Prop) V Ap Ai cp ci := ?later2
    refine wp_region_held_drew (S := fun _ => True) (by kernel_rfl) trivial (fun hS0 => ?_)
    refine tk 0 15 (.pointer (some ⟨x, 11, none⟩)) ?_
    try simp only [s1, s2, s3]
    refine tk 3 18 (.pointer (some ⟨x, 12, none⟩)) ?_
    try simp only [s1, s2, s3]
    refine wpAnyH_ready (rs := [1, 4]) (by kernel_rfl) (by simp) ?_
    refine AllReadyH.cons rfl (fun K hK => ?_) ?_
    · rw [if_pos (by rfl)]
      have hcc := (HB.out.cell 11).trans (show _ = some (Value.slice p.A o.fams.length p.c) from rfl)
      try simp only [World.cell?_drew] at hcc
      go_simp
      clear hcc
      refine hK.out _ _ (trivial) (fun hHeld => ?_)
      clear hK K
      try simp only [Act.put, s1, s2, s3]
      refine wpAnyH_ready (rs := [2, 4]) (by kernel_rfl) (by simp) ?_
      refine AllReadyH.cons rfl (fun K hK => ?_) ?_
      · rw [if_pos (by rfl)]
        go_simp
        go_at_call 41
        refine (clone_int o.fams p.A p.c _ (HR.out.below HB.out.b).pr HS.out.fams).mono ?_
        rintro e wn2 ⟨Ap, cp, rfl, ho, hb⟩
        dsimp only
        replace HOf := Lib.hid (G.owns_below HOf.out hb)
        replace HOl := Lib.hid (G.owns_below HOl.out hb)
        replace HOc := Lib.hid (G.owns_below HOc.out hb)
        have HOp := Lib.hid (owns_mono ho HB.out.lt)
        replace HB := Lib.hid (HB.out.call hb)
        clear ho hb
        refine hK.out _ _ (trivial) (fun hHeld => ?_)
        clear hK K
        try simp only [Act.put, s1, s2, s3]
        refine wpAnyH_ready (rs := [4]) (by kernel_rfl) (by simp) ?_
        refine AllReadyH.cons rfl (fun K hK => ?_) ?_
        · rw [if_pos (by rfl)]
          have hcc := (HB.out.cell 12).trans (show _ = some (Value.slice i.A o.ips.length i.c) from rfl)
          try simp only [World.cell?_drew] at hcc
          go_simp
          clear hcc
          refine hK.out _ _ (trivial) (fun hHeld => ?_)
          clear hK K
          try simp only [Act.put, s1, s2, s3]
          refine tk 6 21 (.pointer (some ⟨x, 11, none⟩)) ?_
          try simp only [s1, s2, s3]
          refine wpAnyH_ready (rs := [5]) (by kernel_rfl) (by simp) ?_
          refine AllReadyH.cons rfl (fun K hK => ?_) ?_
          · rw [if_pos (by rfl)]
            go_simp
            go_at_call 30
            refine (clone_str o.ips i.A i.c _ (HR.out.below HB.out.b).ir HS.out.ips).mono ?_
            rintro e wn4 ⟨Ai, ci, rfl, ho, hb⟩
            dsimp only
            replace HOf := Lib.hid (G.owns_below HOf.out hb)
            replace HOl := Lib.hid (G.owns_below HOl.out hb)
            replace HOc := Lib.hid (G.owns_below HOc.out hb)
            replace HOp := Lib.hid (G.owns_below HOp.out hb)
            have HOi := Lib.hid (owns_mono ho HB.out.lt)
            replace HB := Lib.hid (HB.out.call hb)
            clear ho hb
            refine hK.out _ _ (trivial) (fun hHeld => ?_)
            clear hK K
            try simp only [Act.put, s1, s2, s3]
            repeat clear hHeld
            exact key2 _ _ _ _ _ HB HOf HOl HOc HOp HOi
          exact AllReadyH.nil
        exact AllReadyH.nil
      refine AllReadyH.cons rfl (fun K hK => ?_) ?_
      · rw [if_pos (by rfl)]
        have hcc := (HB.out.cell 12).trans (show _ = some (Value.slice i.A o.ips.length i.c) from rfl)
        try simp only [World.cell?_drew] at hcc
        go_simp
        clear hcc
        refine hK.out _ _ (trivial) (fun hHeld => ?_)
        clear hK K
        try simp only [Act.put, s1, s2, s3]
        refine wpAnyH_ready (rs := [2]) (by kernel_rfl) (by simp) ?_
        refine AllReadyH.cons rfl (fun K hK => ?_) ?_
        · rw [if_pos (by rfl)]
          go_simp
          go_at_call 41
          refine (clone_int o.fams p.A p.c _ (HR.out.below HB.out.b).pr HS.out.fams).mono ?_
          rintro e wn6 ⟨Ap, cp, rfl, ho, hb⟩
          dsimp only
          replace HOf := Lib.hid (G.owns_below HOf.out hb)
          replace HOl := Lib.hid (G.owns_below HOl.out hb)
          replace HOc := Lib.hid (G.owns_below HOc.out hb)
          have HOp := Lib.hid (owns_mono ho HB.out.lt)
          replace HB := Lib.hid (HB.out.call hb)
          clear ho hb
          refine hK.out _ _ (trivial) (fun hHeld => ?_)
          clear hK K
          try simp only [Act.put, s1, s2, s3]
          refine tk 6 21 (.pointer (some ⟨x, 11, none⟩)) ?_
          try simp only [s1, s2, s3]
          refine wpAnyH_ready (rs := [5]) (by kernel_rfl) (by simp) ?_
          refine AllReadyH.cons rfl (fun K hK => ?_) ?_
          · rw [if_pos (by rfl)]
            go_simp
            go_at_call 30
            refine (clone_str o.ips i.A i.c _ (HR.out.below HB.out.b).ir HS.out.ips).mono ?_
            rintro e wn7 ⟨Ai, ci, rfl, ho, hb⟩
            dsimp only
            replace HOf := Lib.hid (G.owns_below HOf.out hb)
            replace HOl := Lib.hid (G.owns_below HOl.out hb)
            replace HOc := Lib.hid (G.owns_below HOc.out hb)
            replace HOp := Lib.hid (G.owns_below HOp.out hb)
            have HOi := Lib.hid (owns_mono ho HB.out.lt)
            replace HB := Lib.hid (HB.out.call hb)
            clear ho hb
            refine hK.out _ _ (trivial) (fun hHeld => ?_)
            clear hK K
            try simp only [Act.put, s1, s2, s3]
            repeat clear hHeld
            exact key2 _ _ _ _ _ HB HOf HOl HOc HOp HOi
          exact AllReadyH.nil
        exact AllReadyH.nil
      exact AllReadyH.nil
    refine AllReadyH.cons rfl (fun K hK => ?_) ?_
    · rw [if_pos (by rfl)]
      have hcc := (HB.out.cell 12).trans (show _ = some (Value.slice i.A o.ips.length i.c) from rfl)
      try simp only [World.cell?_drew] at hcc
      go_simp
      clear hcc
      refine hK.out _ _ (trivial) (fun hHeld => ?_)
      clear hK K
      try simp only [Act.put, s1, s2, s3]
      refine wpAnyH_ready (rs := [1]) (by kernel_rfl) (by simp) ?_
      refine AllReadyH.cons rfl (fun K hK => ?_) ?_
      · rw [if_pos (by rfl)]
        have hcc := (HB.out.cell 11).trans (show _ = some (Value.slice p.A o.fams.length p.c) from rfl)
        try simp only [World.cell?_drew] at hcc
        go_simp
        clear hcc
        refine hK.out _ _ (trivial) (fun hHeld => ?_)
        clear hK K
        try simp only [Act.put, s1, s2, s3]
        refine wpAnyH_ready (rs := [2]) (by kernel_rfl) (by simp) ?_
        refine AllReadyH.cons rfl (fun K hK => ?_) ?_
        · rw [if_pos (by rfl)]
          go_simp
          go_at_call 41
          refine (clone_int o.fams p.A p.c _ (HR.out.below HB.out.b).pr HS.out.fams).mono ?_
          rintro e wn10 ⟨Ap, cp, rfl, ho, hb⟩
          dsimp only
          replace HOf := Lib.hid (G.owns_below HOf.out hb)
          replace HOl := Lib.hid (G.owns_below HOl.out hb)
          replace HOc := Lib.hid (G.owns_below HOc.out hb)
          have HOp := Lib.hid (owns_mono ho HB.out.lt)
          replace HB := Lib.hid (HB.out.call hb)
          clear ho hb
          refine hK.out _ _ (trivial) (fun hHeld => ?_)
          clear hK K
          try simp only [Act.put, s1, s2, s3]
          refine tk 6 21 (.pointer (some ⟨x, 11, none⟩)) ?_
          try simp only [s1, s2, s3]
          refine wpAnyH_ready (rs := [5]) (by kernel_rfl) (by simp) ?_
          refine AllReadyH.cons rfl (fun K hK => ?_) ?_
          · rw [if_pos (by rfl)]
            go_simp
            go_at_call 30
            refine (clone_str o.ips i.A i.c _ (HR.out.below HB.out.b).ir HS.out.ips).mono ?_
            rintro e wn11 ⟨Ai, ci, rfl, ho, hb⟩
            dsimp only
            replace HOf := Lib.hid (G.owns_below HOf.out hb)
            replace HOl := Lib.hid (G.owns_below HOl.out hb)
            replace HOc := Lib.hid (G.owns_below HOc.out hb)
            replace HOp := Lib.hid (G.owns_below HOp.out hb)
            have HOi := Lib.hid (owns_mono ho HB.out.lt)
            replace HB := Lib.hid (HB.out.call hb)
            clear ho hb
            refine hK.out _ _ (trivial) (fun hHeld => ?_)
            clear hK K
            try simp only [Act.put, s1, s2, s3]
            repeat clear hHeld
            exact key2 _ _ _ _ _ HB HOf HOl HOc HOp HOi
          exact AllReadyH.nil
        exact AllReadyH.nil
      exact AllReadyH.nil
    exact AllReadyH.nil
    case later2 =>
    intro V Ap Ai cp ci HB HOf HOl HOc HOp HOi
    have key3 : ∀ V : World, Hid (ClS w w1 x y ((((((oc o f l c p i).setIfInBounds 5 (.slice Af o.fins.length cf)).setIfInBounds 6 (.slice Al o.labels.length cl)).setIfInBounds 7 (.slice Ac o.cidrs.length cc)).setIfInBounds 11 (.slice Ap o.fams.length cp)).setIfInBounds 12 (.slice Ai o.ips.length ci)) V) → Hid (V.ownsRow w1.heap.size 9 1 (.slice Af o.fins.length cf) o.fins.length (o.fins.flatMap cS)) → Hid (V.ownsRow w1.heap.size 78 2 (.slice Al o.labels.length cl) o.labels.length (o.labels.flatMap cP)) → Hid (V.ownsRow w1.heap.size 9 1 (.slice Ac o.cidrs.length cc) o.cidrs.length (o.cidrs.flatMap cS)) → Hid (V.ownsRow w1.heap.size 3 1 (.slice Ap o.fams.length cp) o.fams.length (o.fams.flatMap cI)) → Hid (V.ownsRow w1.heap.size 9 1 (.slice Ai o.ips.length ci) o.ips.length (o.ips.flatMap cS)) → (?T3 : World → Prop) V := ?later3
    refine wpAnyH_ready (rs := [7]) (by kernel_rfl) (by simp) ?_
    refine AllReadyH.cons rfl (fun K hK => ?_) ?_
    · rw [if_pos (by rfl)]
      obtain ⟨u0, hcc⟩ := HB.out.some 11 (by decide)
      have hcf := HB.out.free 11
      go_simp
      clear hcc hcf
      replace HOf := Lib.hid (owns_set HOf.out HB.out.xl 11 (.slice Ap o.fams.length cp))
      replace HOl := Lib.hid (owns_set HOl.out HB.out.xl 11 (.slice Ap o.fams.length cp))
      replace HOc := Lib.hid (owns_set HOc.out HB.out.xl 11 (.slice Ap o.fams.length cp))
      replace HOp := Lib.hid (owns_set HOp.out HB.out.xl 11 (.slice Ap o.fams.length cp))
      replace HOi := Lib.hid (owns_set HOi.out HB.out.xl 11 (.slice Ap o.fams.length cp))
      replace HB := Lib.hid (HB.out.set 11 (.slice Ap o.fams.length cp))
      generalize World.setCell _ _ _ = wn1 at HB HOf HOl HOc HOp HOi ⊢
      refine hK.out _ _ (trivial) (fun hHeld => ?_)
      clear hK K
      try simp only [Act.put, s1, s2, s3]
      refine tk 8 22 (.pointer (some ⟨x, 12, none⟩)) ?_
      try simp only [s1, s2, s3]
      refine wpAnyH_ready (rs := [9]) (by kernel_rfl) (by simp) ?_
      refine AllReadyH.cons rfl (fun K hK => ?_) ?_
      · rw [if_pos (by rfl)]
        obtain ⟨u0, hcc⟩ := HB.out.some 12 (by decide)
        have hcf := HB.out.free 12
        go_simp
        clear hcc hcf
        replace HOf := Lib.hid (owns_set HOf.out HB.out.xl 12 (.slice Ai o.ips.length ci))
        replace HOl := Lib.hid (owns_set HOl.out HB.out.xl 12 (.slice Ai o.ips.length ci))
        replace HOc := Lib.hid (owns_set HOc.out HB.out.xl 12 (.slice Ai o.ips.length ci))
        replace HOp := Lib.hid (owns_set HOp.out HB.out.xl 12 (.slice Ai o.ips.length ci))
        replace HOi := Lib.hid (owns_set HOi.out HB.out.xl 12 (.slice Ai o.ips.length ci))
        replace HB := Lib.hid (HB.out.set 12 (.slice Ai o.ips.length ci))
        generalize World.setCell _ _ _ = wn2 at HB HOf HOl HOc HOp HOi ⊢
        refine hK.out _ _ (trivial) (fun hHeld => ?_)
        clear hK K
        try simp only [Act.put, s1, s2, s3]
        refine wpAnyH_done (by kernel_rfl) ?_ _
        repeat clear hHeld
        try clear hS0
        exact key3 _ HB HOf HOl HOc HOp HOi
      exact AllReadyH.nil
    exact AllReadyH.nil
    case later3 =>
    intro V HB HOf HOl HOc HOp HOi
    try clear hS0
    go_upto_region 3 with (fail)
    have e5 : ((((((oc o f l c p i).setIfInBounds 5 (.slice Af o.fins.length cf)).setIfInBounds 6 (.slice Al o.labels.length cl)).setIfInBounds 7 (.slice Ac o.cidrs.length cc)).setIfInBounds 11 (.slice Ap o.fams.length cp)).setIfInBounds 12 (.slice Ai o.ips.length ci)) = oc o ⟨Af, cf⟩ ⟨Al, cl⟩ ⟨Ac, cc⟩ ⟨Ap, cp⟩ ⟨Ai, ci⟩ := rfl
    rw [e5] at HB
    clear e5
    go_wp2_with (first | refine wpList_load_row rfl 26 (.tmp 1) rfl x rfl 26 _ (0, 0) _ HB.out.hx Try.underlying26 rfl size32 ?_ | refine wpList_store_row rfl 26 (.tmp 2) (.tmp 23) rfl _ (oc o ⟨Af, cf⟩ ⟨Al, cl⟩ ⟨Ac, cc⟩ ⟨Ap, cp⟩ ⟨Ai, ci⟩) rfl rfl 26 _ HB.out.hy size32 rfl (oc_one _ _ _ _ _ _) ?_)
    refine bodyPost_ret (results_cell_row rfl _ _ y 26 (oc o ⟨Af, cf⟩ ⟨Al, cl⟩ ⟨Ac, cc⟩ ⟨Ap, cp⟩ ⟨Ai, ci⟩) (0, 0) _ rfl (setRow_heap _ _ _ _ _ _ HB.out.hy) Try.underlying26 rfl size32) rfl ?_
    exact HEND.out _ _ _ _ _ _ _ _ _ _ _ HB HOf HOl HOc HOp HOi

end Go.Proofs.Ytmbmnldheilffaa
