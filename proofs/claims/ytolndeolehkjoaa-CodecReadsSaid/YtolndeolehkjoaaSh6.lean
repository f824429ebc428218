/- The reference's Shape, behind its first tests. -/
import Derived.Test.YtolndeolehkjoaaSh5
namespace Go.Proofs.Ytolndeolehkjoaa
set_option linter.unusedVariables false
set_option linter.unusedSimpArgs false
open Go.RowKit CodP
set_option maxRecDepth 100000 in
set_option maxHeartbeats 8000000 in
theorem rshape_t0 (o : Ob) (f l c p i : Sl) (hs : o.fins.length ≤ 1000000 ∧ o.labels.length ≤ 1000000 ∧ o.cidrs.length ≤ 1000000 ∧ o.fams.length ≤ 1000000 ∧ o.ips.length ≤ 1000000) (h0 : decide (o.kind < 1) = false) (h1 : decide (4 < o.kind) = false) (h2 : only o = true) (h3 : inR o.uid 1099511627776 = true) (h4 : inR o.version 1099511627776 = true) (h5 : inR o.type 255 = true) (h6 : inR o.policy 255 = true) (h7 : inR o.bits 255 = true) (h8 : decide ((8 : Int) < (o.fams.length : Int)) = false) (h9 : decide ((16 : Int) < (o.labels.length : Int)) = false) (t0 : textsB o.fins 4 = false) (w : World) (hr : RowsR w o f l c p i) :
    Calls Try.prog 47 #[.agg (oc o f l c p i)] w fun e w' => e = .returned (.bool (CodP.shape o)) ∧ Below w.heap.size w w' := by
  have hP := shape_parts o
  have hk0 : inR (o.kind - 1) 3 = true := decide_eq_true (by have := of_decide_eq_false h0; have := of_decide_eq_false h1; omega)
  have hf8 : decide (o.fams.length ≤ 8) = true := decide_eq_true (by have := of_decide_eq_false h8; omega)
  have hl16 : decide (o.labels.length ≤ 16) = true := decide_eq_true (by have := of_decide_eq_false h9; omega)
  rw [hk0, h2, h3, h4, h5, h6, h7, hf8, hl16, t0] at hP
  simp only [Bool.true_and, Bool.and_true, Bool.false_and, Bool.and_false] at hP
  have HP := Lib.hid hP
  clear hP hk0 hf8 hl16
  have hfl : (o.fams.length : Int) ≤ 8 := by have := of_decide_eq_false h8; omega
  have hll : (o.labels.length : Int) ≤ 16 := by have := of_decide_eq_false h9; omega
  have T0 := Lib.hid t0
  clear t0
  obtain ⟨w1, hw1, b1, p1⟩ := box_one w (oc o f l c p i) 32
  obtain ⟨x, hx⟩ : ∃ x, x = w.heap.size := ⟨_, rfl⟩
  have lw := Lib.hid (show x < w1.heap.size by rw [hx]; exact (Array.getElem?_eq_some_iff.1 p1).1)
  rw [← hx] at p1
  have ka0 : ∀ V : World, V.heap[x]? = some (.cells (oc o f l c p i) 32 (0, 0)) → V.cell? ⟨x, 0, none⟩ = some (.int .i64 o.kind) := fun V hV => by simp [World.cell?, hV, oc]
  have ka1 : ∀ V : World, V.heap[x]? = some (.cells (oc o f l c p i) 32 (0, 0)) → V.cell? ⟨x, 1, none⟩ = some (.string o.name) := fun V hV => by simp [World.cell?, hV, oc]
  have ka2 : ∀ V : World, V.heap[x]? = some (.cells (oc o f l c p i) 32 (0, 0)) → V.cell? ⟨x, 2, none⟩ = some (.int .i64 o.uid) := fun V hV => by simp [World.cell?, hV, oc]
  have ka3 : ∀ V : World, V.heap[x]? = some (.cells (oc o f l c p i) 32 (0, 0)) → V.cell? ⟨x, 3, none⟩ = some (.int .i64 o.version) := fun V hV => by simp [World.cell?, hV, oc]
  have ka4 : ∀ V : World, V.heap[x]? = some (.cells (oc o f l c p i) 32 (0, 0)) → V.cell? ⟨x, 4, none⟩ = some (.bool o.deleting) := fun V hV => by simp [World.cell?, hV, oc]
  have ka5 : ∀ V : World, V.heap[x]? = some (.cells (oc o f l c p i) 32 (0, 0)) → V.cell? ⟨x, 5, none⟩ = some (.slice f.A o.fins.length f.c) := fun V hV => by simp [World.cell?, hV, oc]
  have ka6 : ∀ V : World, V.heap[x]? = some (.cells (oc o f l c p i) 32 (0, 0)) → V.cell? ⟨x, 6, none⟩ = some (.slice l.A o.labels.length l.c) := fun V hV => by simp [World.cell?, hV, oc]
  have ka7 : ∀ V : World, V.heap[x]? = some (.cells (oc o f l c p i) 32 (0, 0)) → V.cell? ⟨x, 7, none⟩ = some (.slice c.A o.cidrs.length c.c) := fun V hV => by simp [World.cell?, hV, oc]
  have ka8 : ∀ V : World, V.heap[x]? = some (.cells (oc o f l c p i) 32 (0, 0)) → V.cell? ⟨x, 8, none⟩ = some (.string o.status) := fun V hV => by simp [World.cell?, hV, oc]
  have ka9 : ∀ V : World, V.heap[x]? = some (.cells (oc o f l c p i) 32 (0, 0)) → V.cell? ⟨x, 9, none⟩ = some (.int .i64 o.type) := fun V hV => by simp [World.cell?, hV, oc]
  have ka10 : ∀ V : World, V.heap[x]? = some (.cells (oc o f l c p i) 32 (0, 0)) → V.cell? ⟨x, 10, none⟩ = some (.int .i64 o.policy) := fun V hV => by simp [World.cell?, hV, oc]
  have ka11 : ∀ V : World, V.heap[x]? = some (.cells (oc o f l c p i) 32 (0, 0)) → V.cell? ⟨x, 11, none⟩ = some (.slice p.A o.fams.length p.c) := fun V hV => by simp [World.cell?, hV, oc]
  have ka12 : ∀ V : World, V.heap[x]? = some (.cells (oc o f l c p i) 32 (0, 0)) → V.cell? ⟨x, 12, none⟩ = some (.slice i.A o.ips.length i.c) := fun V hV => by simp [World.cell?, hV, oc]
  have ka13 : ∀ V : World, V.heap[x]? = some (.cells (oc o f l c p i) 32 (0, 0)) → V.cell? ⟨x, 13, none⟩ = some (.string o.v4) := fun V hV => by simp [World.cell?, hV, oc]
  have ka14 : ∀ V : World, V.heap[x]? = some (.cells (oc o f l c p i) 32 (0, 0)) → V.cell? ⟨x, 14, none⟩ = some (.string o.v6) := fun V hV => by simp [World.cell?, hV, oc]
  have ka15 : ∀ V : World, V.heap[x]? = some (.cells (oc o f l c p i) 32 (0, 0)) → V.cell? ⟨x, 15, none⟩ = some (.int .i64 o.bits) := fun V hV => by simp [World.cell?, hV, oc]
  have ka16 : ∀ V : World, V.heap[x]? = some (.cells (oc o f l c p i) 32 (0, 0)) → V.cell? ⟨x, 16, none⟩ = some (.string o.sel) := fun V hV => by simp [World.cell?, hV, oc]
  have ka17 : ∀ V : World, V.heap[x]? = some (.cells (oc o f l c p i) 32 (0, 0)) → V.cell? ⟨x, 17, none⟩ = some (.string o.about) := fun V hV => by simp [World.cell?, hV, oc]
  have ka18 : ∀ V : World, V.heap[x]? = some (.cells (oc o f l c p i) 32 (0, 0)) → V.cell? ⟨x, 18, none⟩ = some (.string o.reason) := fun V hV => by simp [World.cell?, hV, oc]
  have R1 := Lib.hid (hr.below b1)
  have HSZ := Lib.hid hs
  have HK := Lib.hid (show 1 ≤ o.kind ∧ o.kind ≤ 4 from ⟨by have := of_decide_eq_false h0; omega, by have := of_decide_eq_false h1; omega⟩)
  have H2 := Lib.hid h2
  clear h2
  have H3 := Lib.hid h3
  clear h3
  have H4 := Lib.hid h4
  clear h4
  have H5 := Lib.hid h5
  clear h5
  have H6 := Lib.hid h6
  clear h6
  have H7 := Lib.hid h7
  clear h7
  have HW := Lib.hid hw1
  have B1 := Lib.hid b1
  have P1 := Lib.hid p1
  clear b1 p1 hw1 hr hs
  go_enter Try.func47, Try.ntmps47
  go_upto_region 1 with (fail)
  rw [← HW.out, ← hx]
  clear hx
  refine wp_region_held_drew (S := fun V => V.heap[x]? = some (.cells (oc o f l c p i) 32 (0, 0)) ∧ Below w1.heap.size w1 V) (by kernel_rfl) ⟨P1.out, ⟨rfl, rfl, rfl, Nat.le_refl _, fun _ _ => rfl⟩⟩ (fun hS0 => ?_)
  refine tk 0 5 (.pointer (some ⟨x, 0, none⟩)) ?_
  try simp only [s1, s2, s3]
  refine tk 1 6 (.int .i64 o.kind) ?_ (hv := by (intro V hV; have hc := ka0 V hV.1; clear hV; go_simp; try rfl))
  try simp only [s1, s2, s3]
  refine tk 2 7 (.bool false) ?_
  try simp only [s1, s2, s3]
  refine tk 3 8 (.bool false) ?_
  try simp only [s1, s2, s3]
  refine tk 4 9 (.pointer (some ⟨x, 0, none⟩)) ?_
  try simp only [s1, s2, s3]
  refine tk 5 10 (.int .i64 o.kind) ?_ (hv := by (intro V hV; have hc := ka0 V hV.1; clear hV; go_simp; try rfl))
  try simp only [s1, s2, s3]
  refine tk 6 11 (.bool false) ?_
  try simp only [s1, s2, s3]
  refine tk 7 12 (.bool false) ?_
  try simp only [s1, s2, s3]
  refine tk 8 13 (.bool false) ?_
  try simp only [s1, s2, s3]
  refine tk 9 14 (.agg (oc o f l c p i)) ?_ (hv := by exact load_row_yields 32 (.tmp 1) rfl x rfl 32 (oc o f l c p i) (0, 0) _ (fun V hV => hV.1) Try.underlying32 rfl size32)
  try simp only [s1, s2, s3]
  refine tk 10 15 (.agg (oc o f l c p i)) ?_ (hv := by exact load_row_yields 32 (.tmp 1) rfl x rfl 32 (oc o f l c p i) (0, 0) _ (fun V hV => hV.1) Try.underlying32 rfl size32)
  try simp only [s1, s2, s3]
  refine wpAnyH_ready (rs := [11]) (by kernel_rfl) (by simp) ?_
  refine AllReadyH.cons rfl (fun K hK => ?_) ?_
  · rw [if_pos (by rfl)]
    go_simp
    go_at_call 81
    refine (only_any o f l c p i HK.out _ (R1.out.below (And.right ‹_ ∧ _›))).mono ?_
    rintro e wO ⟨f', l', c', p', i', rfl, hro, hbO⟩
    dsimp only
    refine hK.out _ _ (keepX lw.out (by assumption) hbO) (fun hHeld => ?_)
    clear hK K
    try simp only [Act.put, s1, s2, s3]
    refine wpAnyH_ready (rs := [12]) (by kernel_rfl) (by simp) ?_
    refine AllReadyH.cons rfl (fun K hK => ?_) ?_
    · rw [if_pos (by rfl)]
      go_simp
      go_at_call 18
      refine (same14_any o (onlyO o) f l c p i f' l' c' p' i' HSZ.out wO (R1.out.below hHeld.2) hro).mono ?_
      rw [only_same o HK.out, H2.out]
      rintro e wS ⟨rfl, hbS⟩
      dsimp only
      refine hK.out _ _ (keepX lw.out (by assumption) hbS) (fun hHeld => ?_)
      clear hK K
      try simp only [Act.put, s1, s2, s3]
      refine tk 13 18 (.bool false) ?_
      try simp only [s1, s2, s3]
      refine tk 14 19 (.bool false) ?_
      try simp only [s1, s2, s3]
      refine tk 15 20 (.bool false) ?_
      try simp only [s1, s2, s3]
      refine tk 16 21 (.pointer (some ⟨x, 2, none⟩)) ?_
      try simp only [s1, s2, s3]
      refine tk 17 22 (.int .i64 o.uid) ?_ (hv := by (intro V hV; have hc := ka2 V hV.1; clear hV; go_simp; try rfl))
      try simp only [s1, s2, s3]
      refine wpAnyH_ready (rs := [18]) (by kernel_rfl) (by simp) ?_
      refine AllReadyH.cons rfl (fun K hK => ?_) ?_
      · rw [if_pos (by rfl)]
        go_simp
        go_at_call 57
        refine (in_any o.uid 1099511627776 true H3.out _).mono ?_
        rintro e v3 ⟨rfl, hv3⟩
        have hw3 := hv3.symm
        clear hv3
        subst hw3
        dsimp only
        refine hK.out _ _ (by assumption) (fun hHeld => ?_)
        clear hK K
        try simp only [Act.put, s1, s2, s3]
        refine tk 19 24 (.bool false) ?_
        try simp only [s1, s2, s3]
        refine tk 20 25 (.bool false) ?_
        try simp only [s1, s2, s3]
        refine tk 21 26 (.bool false) ?_
        try simp only [s1, s2, s3]
        refine tk 22 27 (.pointer (some ⟨x, 3, none⟩)) ?_
        try simp only [s1, s2, s3]
        refine tk 23 28 (.int .i64 o.version) ?_ (hv := by (intro V hV; have hc := ka3 V hV.1; clear hV; go_simp; try rfl))
        try simp only [s1, s2, s3]
        refine wpAnyH_ready (rs := [24]) (by kernel_rfl) (by simp) ?_
        refine AllReadyH.cons rfl (fun K hK => ?_) ?_
        · rw [if_pos (by rfl)]
          go_simp
          go_at_call 57
          refine (in_any o.version 1099511627776 true H4.out _).mono ?_
          rintro e v4 ⟨rfl, hv4⟩
          have hw4 := hv4.symm
          clear hv4
          subst hw4
          dsimp only
          refine hK.out _ _ (by assumption) (fun hHeld => ?_)
          clear hK K
          try simp only [Act.put, s1, s2, s3]
          refine tk 25 30 (.bool false) ?_
          try simp only [s1, s2, s3]
          refine tk 26 31 (.bool false) ?_
          try simp only [s1, s2, s3]
          refine tk 27 32 (.bool false) ?_
          try simp only [s1, s2, s3]
          refine tk 28 33 (.pointer (some ⟨x, 9, none⟩)) ?_
          try simp only [s1, s2, s3]
          refine tk 29 34 (.int .i64 o.type) ?_ (hv := by (intro V hV; have hc := ka9 V hV.1; clear hV; go_simp; try rfl))
          try simp only [s1, s2, s3]
          refine wpAnyH_ready (rs := [30]) (by kernel_rfl) (by simp) ?_
          refine AllReadyH.cons rfl (fun K hK => ?_) ?_
          · rw [if_pos (by rfl)]
            go_simp
            go_at_call 57
            refine (in_any o.type 255 true H5.out _).mono ?_
            rintro e v5 ⟨rfl, hv5⟩
            have hw5 := hv5.symm
            clear hv5
            subst hw5
            dsimp only
            refine hK.out _ _ (by assumption) (fun hHeld => ?_)
            clear hK K
            try simp only [Act.put, s1, s2, s3]
            refine tk 31 36 (.bool false) ?_
            try simp only [s1, s2, s3]
            refine tk 32 37 (.bool false) ?_
            try simp only [s1, s2, s3]
            refine tk 33 38 (.bool false) ?_
            try simp only [s1, s2, s3]
            refine tk 34 39 (.pointer (some ⟨x, 10, none⟩)) ?_
            try simp only [s1, s2, s3]
            refine tk 35 40 (.int .i64 o.policy) ?_ (hv := by (intro V hV; have hc := ka10 V hV.1; clear hV; go_simp; try rfl))
            try simp only [s1, s2, s3]
            refine wpAnyH_ready (rs := [36]) (by kernel_rfl) (by simp) ?_
            refine AllReadyH.cons rfl (fun K hK => ?_) ?_
            · rw [if_pos (by rfl)]
              go_simp
              go_at_call 57
              refine (in_any o.policy 255 true H6.out _).mono ?_
              rintro e v6 ⟨rfl, hv6⟩
              have hw6 := hv6.symm
              clear hv6
              subst hw6
              dsimp only
              refine hK.out _ _ (by assumption) (fun hHeld => ?_)
              clear hK K
              try simp only [Act.put, s1, s2, s3]
              refine tk 37 42 (.bool false) ?_
              try simp only [s1, s2, s3]
              refine tk 38 43 (.bool false) ?_
              try simp only [s1, s2, s3]
              refine tk 39 44 (.bool false) ?_
              try simp only [s1, s2, s3]
              refine tk 40 45 (.pointer (some ⟨x, 15, none⟩)) ?_
              try simp only [s1, s2, s3]
              refine tk 41 46 (.int .i64 o.bits) ?_ (hv := by (intro V hV; have hc := ka15 V hV.1; clear hV; go_simp; try rfl))
              try simp only [s1, s2, s3]
              refine wpAnyH_ready (rs := [42]) (by kernel_rfl) (by simp) ?_
              refine AllReadyH.cons rfl (fun K hK => ?_) ?_
              · rw [if_pos (by rfl)]
                go_simp
                go_at_call 57
                refine (in_any o.bits 255 true H7.out _).mono ?_
                rintro e v7 ⟨rfl, hv7⟩
                have hw7 := hv7.symm
                clear hv7
                subst hw7
                dsimp only
                refine hK.out _ _ (by assumption) (fun hHeld => ?_)
                clear hK K
                try simp only [Act.put, s1, s2, s3]
                refine tk 43 48 (.bool false) ?_
                try simp only [s1, s2, s3]
                refine tk 44 49 (.bool false) ?_
                try simp only [s1, s2, s3]
                refine tk 45 50 (.bool false) ?_
                try simp only [s1, s2, s3]
                refine tk 46 51 (.pointer (some ⟨x, 11, none⟩)) ?_
                try simp only [s1, s2, s3]
                refine tk 47 52 (.slice p.A o.fams.length p.c) ?_ (hv := by (intro V hV; have hc := ka11 V hV.1; clear hV; go_simp; try rfl))
                try simp only [s1, s2, s3]
                refine tk 48 53 (.int .i64 (o.fams.length : Nat)) ?_
                try simp only [s1, s2, s3]
                refine tk 49 54 (.bool false) ?_
                try simp only [s1, s2, s3]
                refine tk 50 55 (.bool false) ?_
                try simp only [s1, s2, s3]
                refine tk 51 56 (.bool false) ?_
                try simp only [s1, s2, s3]
                refine tk 52 57 (.pointer (some ⟨x, 6, none⟩)) ?_
                try simp only [s1, s2, s3]
                refine tk 53 58 (.slice l.A o.labels.length l.c) ?_ (hv := by (intro V hV; have hc := ka6 V hV.1; clear hV; go_simp; try rfl))
                try simp only [s1, s2, s3]
                refine tk 54 59 (.int .i64 (o.labels.length : Nat)) ?_
                try simp only [s1, s2, s3]
                refine tk 55 60 (.bool false) ?_
                try simp only [s1, s2, s3]
                refine tk 56 61 (.bool false) ?_
                try simp only [s1, s2, s3]
                refine wpAnyH_done (by kernel_rfl) ?_ _
                have HE := Lib.hid hHeld
                repeat clear hHeld
                clear h0 h1 h8 h9
                have BW := Lib.hid (B1.out.trans (belowLe B1.out.size HE.out.2))
                have RW := Lib.hid (R1.out.below HE.out.2)
                have kx11 := ka11 _ HE.out.1
                have kx6 := ka6 _ HE.out.1
                go_wp2
                go_loop [3] (fun j => ∃ k : Nat, k ≤ o.fams.length ∧ j = .int .i64 k ∧ Hid ((o.fams.take k).all (fun n => inR n 255) = true)) (fun j => o.fams.length - (intOf j).toNat)
                case atStart => exact ⟨0, Nat.zero_le _, rfl, Lib.hid (by simp)⟩
                case round =>
                  obtain ⟨k, hk, rfl, H⟩ := hrel
                  by_cases hkn : k < o.fams.length
                  · obtain ⟨u, hu⟩ : ∃ u, o.fams[k]? = some u := ⟨_, List.getElem?_eq_getElem hkn⟩
                    have h1 := flat_at cI 1 (fun _ => rfl) o.fams k u hu 0 (by omega)
                    obtain ⟨ad, hA, e1⟩ := RW.out.pr _ _ h1
                    simp only [Nat.mul_one, Nat.add_zero] at e1
                    rw [hA] at kx11
                    clear h1 hA
                    cases hin : inR u 255
                    · have hS : (o.fams.all fun n => inR n 255) = false := by rw [List.all_eq_false]; exact ⟨u, List.mem_of_getElem? hu, by rw [hin]; simp⟩
                      have HS := Lib.hid hS
                      have HC := Lib.hid (fun V => in_any u 255 false hin V)
                      clear hS hin hu
                      go_wp2_with (go_at_call 57; refine (HC.out _).mono ?_; rintro e w5 ⟨rfl, hw5⟩; have hw6 := hw5.symm; clear hw5; subst hw6)
                      go_ret
                      exact ⟨by rw [HP.out]; (try (rw [HS.out]; simp only [Bool.false_and])); rfl, BW.out⟩
                    · have hn : (o.fams.take (k + 1)).all (fun n => inR n 255) = true := by rw [List.take_add_one, hu, List.all_append, H.out]; simp [hin]
                      have HN := Lib.hid hn
                      have HC := Lib.hid (fun V => in_any u 255 true hin V)
                      clear hn hin hu
                      go_wp2_with (go_at_call 57; refine (HC.out _).mono ?_; rintro e w5 ⟨rfl, hw5⟩; have hw6 := hw5.symm; clear hw5; subst hw6)
                      go_round
                      case rel => exact ⟨k + 1, by omega, by go_num, HN⟩
                      case measure => simp [intOf]; omega
                  · obtain rfl : k = o.fams.length := by omega
                    have hFa := H.out
                    rw [List.take_length] at hFa
                    have HFa := Lib.hid hFa
                    clear hFa hkn
                    go_wp2
                    go_loop [4] (fun j => ∃ k : Nat, k ≤ o.labels.length ∧ j = .int .i64 k ∧ Hid ((o.labels.take k).all (fun p => decide (p.1.size ≤ 200 ∧ p.2.size ≤ 200)) = true)) (fun j => o.labels.length - (intOf j).toNat)
                    case atStart => exact ⟨0, Nat.zero_le _, rfl, Lib.hid (by simp)⟩
                    case round =>
                      obtain ⟨k, hk2, rfl, H⟩ := hrel
                      by_cases hkn : k < o.labels.length
                      · obtain ⟨u, hu⟩ : ∃ u, o.labels[k]? = some u := ⟨_, List.getElem?_eq_getElem hkn⟩
                        have h1 := flat_at cP 2 (fun _ => rfl) o.labels k u hu 0 (by omega)
                        have h2 := flat_at cP 2 (fun _ => rfl) o.labels k u hu 1 (by omega)
                        obtain ⟨ad, hA, e1⟩ := RW.out.lr _ _ h1
                        obtain ⟨bd, hB, e2⟩ := RW.out.lr _ _ h2
                        obtain rfl : ad = bd := by rw [hA] at hB; injection hB
                        rw [← addadd] at e1 e2
                        rw [hA] at kx6
                        have e0 : wS.cell? (ad.add (k * 2)) = some (.string u.1) := by rw [addr_add0] at e1; exact e1
                        have e3 : wS.cell? ⟨(ad.add (k * 2)).block, (ad.add (k * 2)).off + 1, none⟩ = some (.string u.2) := e2
                        clear e2
                        clear h1 h2 hA hB e1
                        by_cases hs1 : u.1.size ≤ 200
                        · by_cases hs2 : u.2.size ≤ 200
                          · have g1 : decide ((200 : Int) < u.1.size) = false := decide_eq_false (by omega)
                            have g2 : decide ((200 : Int) < u.2.size) = false := decide_eq_false (by omega)
                            have hn : (o.labels.take (k + 1)).all (fun p => decide (p.1.size ≤ 200 ∧ p.2.size ≤ 200)) = true := by rw [List.take_add_one, hu, List.all_append, H.out]; simp [hs1, hs2]
                            have HN := Lib.hid hn
                            clear hn hu
                            go_wp2
                            go_round
                            case rel => exact ⟨k + 1, by omega, by go_num, HN⟩
                            case measure => simp [intOf]; omega
                          · have g1 : decide ((200 : Int) < u.1.size) = false := decide_eq_false (by omega)
                            have g2 : decide ((200 : Int) < u.2.size) = true := decide_eq_true (by omega)
                            have hS : (o.labels.all fun p => decide (p.1.size ≤ 200 ∧ p.2.size ≤ 200)) = false := by rw [List.all_eq_false]; exact ⟨u, List.mem_of_getElem? hu, by simp [hs2]⟩
                            have HS := Lib.hid hS
                            clear hS hu
                            go_wp2
                            go_ret
                            exact ⟨by rw [HP.out]; (try (rw [HFa.out, HS.out]; simp only [Bool.false_and, Bool.true_and])); rfl, BW.out⟩
                        · have g1 : decide ((200 : Int) < u.1.size) = true := decide_eq_true (by omega)
                          have hS : (o.labels.all fun p => decide (p.1.size ≤ 200 ∧ p.2.size ≤ 200)) = false := by rw [List.all_eq_false]; exact ⟨u, List.mem_of_getElem? hu, by simp [hs1]⟩
                          have HS := Lib.hid hS
                          clear hS hu
                          go_wp2
                          go_ret
                          exact ⟨by rw [HP.out]; (try (rw [HFa.out, HS.out]; simp only [Bool.false_and, Bool.true_and])); rfl, BW.out⟩
                      · obtain rfl : k = o.labels.length := by omega
                        have hLa := H.out
                        rw [List.take_length] at hLa
                        have HLa := Lib.hid hLa
                        clear hLa hkn
                        have kx5 := ka5 _ HE.out.1
                        go_wp2_with (fail)
                        refine (rtextsI_any o.fins f.A f.c 4 4 rfl _ rfl (by omega) false T0.out _ (RW.out.fr)).mono ?_
                        rintro e u0 ⟨rfl, hbu0⟩
                        have BU0 := Lib.hid (show Below wS.heap.size wS u0 from hbu0)
                        have RW0 := Lib.hid (RW.out.below BU0.out)
                        have PU0 := Lib.hid ((BU0.out.block x (Array.getElem?_eq_some_iff.1 HE.out.1).1).trans HE.out.1)
                        clear hbu0
                        have ku0 := ka7 _ PU0.out
                        go_wp2
                        go_ret
                        exact ⟨by rw [HP.out]; rfl, BW.out.trans (belowLe BW.out.size BU0.out)⟩
              exact AllReadyH.nil
            exact AllReadyH.nil
          exact AllReadyH.nil
        exact AllReadyH.nil
      exact AllReadyH.nil
    exact AllReadyH.nil
  exact AllReadyH.nil
set_option maxRecDepth 100000 in
set_option maxHeartbeats 8000000 in
theorem rshape_t1 (o : Ob) (f l c p i : Sl) (hs : o.fins.length ≤ 1000000 ∧ o.labels.length ≤ 1000000 ∧ o.cidrs.length ≤ 1000000 ∧ o.fams.length ≤ 1000000 ∧ o.ips.length ≤ 1000000) (h0 : decide (o.kind < 1) = false) (h1 : decide (4 < o.kind) = false) (h2 : only o = true) (h3 : inR o.uid 1099511627776 = true) (h4 : inR o.version 1099511627776 = true) (h5 : inR o.type 255 = true) (h6 : inR o.policy 255 = true) (h7 : inR o.bits 255 = true) (h8 : decide ((8 : Int) < (o.fams.length : Int)) = false) (h9 : decide ((16 : Int) < (o.labels.length : Int)) = false) (t0 : textsB o.fins 4 = true) (t1 : textsB o.cidrs 8 = false) (w : World) (hr : RowsR w o f l c p i) :
    Calls Try.prog 47 #[.agg (oc o f l c p i)] w fun e w' => e = .returned (.bool (CodP.shape o)) ∧ Below w.heap.size w w' := by
  have hP := shape_parts o
  have hk0 : inR (o.kind - 1) 3 = true := decide_eq_true (by have := of_decide_eq_false h0; have := of_decide_eq_false h1; omega)
  have hf8 : decide (o.fams.length ≤ 8) = true := decide_eq_true (by have := of_decide_eq_false h8; omega)
  have hl16 : decide (o.labels.length ≤ 16) = true := decide_eq_true (by have := of_decide_eq_false h9; omega)
  rw [hk0, h2, h3, h4, h5, h6, h7, hf8, hl16, t0, t1] at hP
  simp only [Bool.true_and, Bool.and_true, Bool.false_and, Bool.and_false] at hP
  have HP := Lib.hid hP
  clear hP hk0 hf8 hl16
  have hfl : (o.fams.length : Int) ≤ 8 := by have := of_decide_eq_false h8; omega
  have hll : (o.labels.length : Int) ≤ 16 := by have := of_decide_eq_false h9; omega
  have T0 := Lib.hid t0
  clear t0
  have T1 := Lib.hid t1
  clear t1
  obtain ⟨w1, hw1, b1, p1⟩ := box_one w (oc o f l c p i) 32
  obtain ⟨x, hx⟩ : ∃ x, x = w.heap.size := ⟨_, rfl⟩
  have lw := Lib.hid (show x < w1.heap.size by rw [hx]; exact (Array.getElem?_eq_some_iff.1 p1).1)
  rw [← hx] at p1
  have ka0 : ∀ V : World, V.heap[x]? = some (.cells (oc o f l c p i) 32 (0, 0)) → V.cell? ⟨x, 0, none⟩ = some (.int .i64 o.kind) := fun V hV => by simp [World.cell?, hV, oc]
  have ka1 : ∀ V : World, V.heap[x]? = some (.cells (oc o f l c p i) 32 (0, 0)) → V.cell? ⟨x, 1, none⟩ = some (.string o.name) := fun V hV => by simp [World.cell?, hV, oc]
  have ka2 : ∀ V : World, V.heap[x]? = some (.cells (oc o f l c p i) 32 (0, 0)) → V.cell? ⟨x, 2, none⟩ = some (.int .i64 o.uid) := fun V hV => by simp [World.cell?, hV, oc]
  have ka3 : ∀ V : World, V.heap[x]? = some (.cells (oc o f l c p i) 32 (0, 0)) → V.cell? ⟨x, 3, none⟩ = some (.int .i64 o.version) := fun V hV => by simp [World.cell?, hV, oc]
  have ka4 : ∀ V : World, V.heap[x]? = some (.cells (oc o f l c p i) 32 (0, 0)) → V.cell? ⟨x, 4, none⟩ = some (.bool o.deleting) := fun V hV => by simp [World.cell?, hV, oc]
  have ka5 : ∀ V : World, V.heap[x]? = some (.cells (oc o f l c p i) 32 (0, 0)) → V.cell? ⟨x, 5, none⟩ = some (.slice f.A o.fins.length f.c) := fun V hV => by simp [World.cell?, hV, oc]
  have ka6 : ∀ V : World, V.heap[x]? = some (.cells (oc o f l c p i) 32 (0, 0)) → V.cell? ⟨x, 6, none⟩ = some (.slice l.A o.labels.length l.c) := fun V hV => by simp [World.cell?, hV, oc]
  have ka7 : ∀ V : World, V.heap[x]? = some (.cells (oc o f l c p i) 32 (0, 0)) → V.cell? ⟨x, 7, none⟩ = some (.slice c.A o.cidrs.length c.c) := fun V hV => by simp [World.cell?, hV, oc]
  have ka8 : ∀ V : World, V.heap[x]? = some (.cells (oc o f l c p i) 32 (0, 0)) → V.cell? ⟨x, 8, none⟩ = some (.string o.status) := fun V hV => by simp [World.cell?, hV, oc]
  have ka9 : ∀ V : World, V.heap[x]? = some (.cells (oc o f l c p i) 32 (0, 0)) → V.cell? ⟨x, 9, none⟩ = some (.int .i64 o.type) := fun V hV => by simp [World.cell?, hV, oc]
  have ka10 : ∀ V : World, V.heap[x]? = some (.cells (oc o f l c p i) 32 (0, 0)) → V.cell? ⟨x, 10, none⟩ = some (.int .i64 o.policy) := fun V hV => by simp [World.cell?, hV, oc]
  have ka11 : ∀ V : World, V.heap[x]? = some (.cells (oc o f l c p i) 32 (0, 0)) → V.cell? ⟨x, 11, none⟩ = some (.slice p.A o.fams.length p.c) := fun V hV => by simp [World.cell?, hV, oc]
  have ka12 : ∀ V : World, V.heap[x]? = some (.cells (oc o f l c p i) 32 (0, 0)) → V.cell? ⟨x, 12, none⟩ = some (.slice i.A o.ips.length i.c) := fun V hV => by simp [World.cell?, hV, oc]
  have ka13 : ∀ V : World, V.heap[x]? = some (.cells (oc o f l c p i) 32 (0, 0)) → V.cell? ⟨x, 13, none⟩ = some (.string o.v4) := fun V hV => by simp [World.cell?, hV, oc]
  have ka14 : ∀ V : World, V.heap[x]? = some (.cells (oc o f l c p i) 32 (0, 0)) → V.cell? ⟨x, 14, none⟩ = some (.string o.v6) := fun V hV => by simp [World.cell?, hV, oc]
  have ka15 : ∀ V : World, V.heap[x]? = some (.cells (oc o f l c p i) 32 (0, 0)) → V.cell? ⟨x, 15, none⟩ = some (.int .i64 o.bits) := fun V hV => by simp [World.cell?, hV, oc]
  have ka16 : ∀ V : World, V.heap[x]? = some (.cells (oc o f l c p i) 32 (0, 0)) → V.cell? ⟨x, 16, none⟩ = some (.string o.sel) := fun V hV => by simp [World.cell?, hV, oc]
  have ka17 : ∀ V : World, V.heap[x]? = some (.cells (oc o f l c p i) 32 (0, 0)) → V.cell? ⟨x, 17, none⟩ = some (.string o.about) := fun V hV => by simp [World.cell?, hV, oc]
  have ka18 : ∀ V : World, V.heap[x]? = some (.cells (oc o f l c p i) 32 (0, 0)) → V.cell? ⟨x, 18, none⟩ = some (.string o.reason) := fun V hV => by simp [World.cell?, hV, oc]
  have R1 := Lib.hid (hr.below b1)
  have HSZ := Lib.hid hs
  have HK := Lib.hid (show 1 ≤ o.kind ∧ o.kind ≤ 4 from ⟨by have := of_decide_eq_false h0; omega, by have := of_decide_eq_false h1; omega⟩)
  have H2 := Lib.hid h2
  clear h2
  have H3 := Lib.hid h3
  clear h3
  have H4 := Lib.hid h4
  clear h4
  have H5 := Lib.hid h5
  clear h5
  have H6 := Lib.hid h6
  clear h6
  have H7 := Lib.hid h7
  clear h7
  have HW := Lib.hid hw1
  have B1 := Lib.hid b1
  have P1 := Lib.hid p1
  clear b1 p1 hw1 hr hs
  go_enter Try.func47, Try.ntmps47
  go_upto_region 1 with (fail)
  rw [← HW.out, ← hx]
  clear hx
  refine wp_region_held_drew (S := fun V => V.heap[x]? = some (.cells (oc o f l c p i) 32 (0, 0)) ∧ Below w1.heap.size w1 V) (by kernel_rfl) ⟨P1.out, ⟨rfl, rfl, rfl, Nat.le_refl _, fun _ _ => rfl⟩⟩ (fun hS0 => ?_)
  refine tk 0 5 (.pointer (some ⟨x, 0, none⟩)) ?_
  try simp only [s1, s2, s3]
  refine tk 1 6 (.int .i64 o.kind) ?_ (hv := by (intro V hV; have hc := ka0 V hV.1; clear hV; go_simp; try rfl))
  try simp only [s1, s2, s3]
  refine tk 2 7 (.bool false) ?_
  try simp only [s1, s2, s3]
  refine tk 3 8 (.bool false) ?_
  try simp only [s1, s2, s3]
  refine tk 4 9 (.pointer (some ⟨x, 0, none⟩)) ?_
  try simp only [s1, s2, s3]
  refine tk 5 10 (.int .i64 o.kind) ?_ (hv := by (intro V hV; have hc := ka0 V hV.1; clear hV; go_simp; try rfl))
  try simp only [s1, s2, s3]
  refine tk 6 11 (.bool false) ?_
  try simp only [s1, s2, s3]
  refine tk 7 12 (.bool false) ?_
  try simp only [s1, s2, s3]
  refine tk 8 13 (.bool false) ?_
  try simp only [s1, s2, s3]
  refine tk 9 14 (.agg (oc o f l c p i)) ?_ (hv := by exact load_row_yields 32 (.tmp 1) rfl x rfl 32 (oc o f l c p i) (0, 0) _ (fun V hV => hV.1) Try.underlying32 rfl size32)
  try simp only [s1, s2, s3]
  refine tk 10 15 (.agg (oc o f l c p i)) ?_ (hv := by exact load_row_yields 32 (.tmp 1) rfl x rfl 32 (oc o f l c p i) (0, 0) _ (fun V hV => hV.1) Try.underlying32 rfl size32)
  try simp only [s1, s2, s3]
  refine wpAnyH_ready (rs := [11]) (by kernel_rfl) (by simp) ?_
  refine AllReadyH.cons rfl (fun K hK => ?_) ?_
  · rw [if_pos (by rfl)]
    go_simp
    go_at_call 81
    refine (only_any o f l c p i HK.out _ (R1.out.below (And.right ‹_ ∧ _›))).mono ?_
    rintro e wO ⟨f', l', c', p', i', rfl, hro, hbO⟩
    dsimp only
    refine hK.out _ _ (keepX lw.out (by assumption) hbO) (fun hHeld => ?_)
    clear hK K
    try simp only [Act.put, s1, s2, s3]
    refine wpAnyH_ready (rs := [12]) (by kernel_rfl) (by simp) ?_
    refine AllReadyH.cons rfl (fun K hK => ?_) ?_
    · rw [if_pos (by rfl)]
      go_simp
      go_at_call 18
      refine (same14_any o (onlyO o) f l c p i f' l' c' p' i' HSZ.out wO (R1.out.below hHeld.2) hro).mono ?_
      rw [only_same o HK.out, H2.out]
      rintro e wS ⟨rfl, hbS⟩
      dsimp only
      refine hK.out _ _ (keepX lw.out (by assumption) hbS) (fun hHeld => ?_)
      clear hK K
      try simp only [Act.put, s1, s2, s3]
      refine tk 13 18 (.bool false) ?_
      try simp only [s1, s2, s3]
      refine tk 14 19 (.bool false) ?_
      try simp only [s1, s2, s3]
      refine tk 15 20 (.bool false) ?_
      try simp only [s1, s2, s3]
      refine tk 16 21 (.pointer (some ⟨x, 2, none⟩)) ?_
      try simp only [s1, s2, s3]
      refine tk 17 22 (.int .i64 o.uid) ?_ (hv := by (intro V hV; have hc := ka2 V hV.1; clear hV; go_simp; try rfl))
      try simp only [s1, s2, s3]
      refine wpAnyH_ready (rs := [18]) (by kernel_rfl) (by simp) ?_
      refine AllReadyH.cons rfl (fun K hK => ?_) ?_
      · rw [if_pos (by rfl)]
        go_simp
        go_at_call 57
        refine (in_any o.uid 1099511627776 true H3.out _).mono ?_
        rintro e v3 ⟨rfl, hv3⟩
        have hw3 := hv3.symm
        clear hv3
        subst hw3
        dsimp only
        refine hK.out _ _ (by assumption) (fun hHeld => ?_)
        clear hK K
        try simp only [Act.put, s1, s2, s3]
        refine tk 19 24 (.bool false) ?_
        try simp only [s1, s2, s3]
        refine tk 20 25 (.bool false) ?_
        try simp only [s1, s2, s3]
        refine tk 21 26 (.bool false) ?_
        try simp only [s1, s2, s3]
        refine tk 22 27 (.pointer (some ⟨x, 3, none⟩)) ?_
        try simp only [s1, s2, s3]
        refine tk 23 28 (.int .i64 o.version) ?_ (hv := by (intro V hV; have hc := ka3 V hV.1; clear hV; go_simp; try rfl))
        try simp only [s1, s2, s3]
        refine wpAnyH_ready (rs := [24]) (by kernel_rfl) (by simp) ?_
        refine AllReadyH.cons rfl (fun K hK => ?_) ?_
        · rw [if_pos (by rfl)]
          go_simp
          go_at_call 57
          refine (in_any o.version 1099511627776 true H4.out _).mono ?_
          rintro e v4 ⟨rfl, hv4⟩
          have hw4 := hv4.symm
          clear hv4
          subst hw4
          dsimp only
          refine hK.out _ _ (by assumption) (fun hHeld => ?_)
          clear hK K
          try simp only [Act.put, s1, s2, s3]
          refine tk 25 30 (.bool false) ?_
          try simp only [s1, s2, s3]
          refine tk 26 31 (.bool false) ?_
          try simp only [s1, s2, s3]
          refine tk 27 32 (.bool false) ?_
          try simp only [s1, s2, s3]
          refine tk 28 33 (.pointer (some ⟨x, 9, none⟩)) ?_
          try simp only [s1, s2, s3]
          refine tk 29 34 (.int .i64 o.type) ?_ (hv := by (intro V hV; have hc := ka9 V hV.1; clear hV; go_simp; try rfl))
          try simp only [s1, s2, s3]
          refine wpAnyH_ready (rs := [30]) (by kernel_rfl) (by simp) ?_
          refine AllReadyH.cons rfl (fun K hK => ?_) ?_
          · rw [if_pos (by rfl)]
            go_simp
            go_at_call 57
            refine (in_any o.type 255 true H5.out _).mono ?_
            rintro e v5 ⟨rfl, hv5⟩
            have hw5 := hv5.symm
            clear hv5
            subst hw5
            dsimp only
            refine hK.out _ _ (by assumption) (fun hHeld => ?_)
            clear hK K
            try simp only [Act.put, s1, s2, s3]
            refine tk 31 36 (.bool false) ?_
            try simp only [s1, s2, s3]
            refine tk 32 37 (.bool false) ?_
            try simp only [s1, s2, s3]
            refine tk 33 38 (.bool false) ?_
            try simp only [s1, s2, s3]
            refine tk 34 39 (.pointer (some ⟨x, 10, none⟩)) ?_
            try simp only [s1, s2, s3]
            refine tk 35 40 (.int .i64 o.policy) ?_ (hv := by (intro V hV; have hc := ka10 V hV.1; clear hV; go_simp; try rfl))
            try simp only [s1, s2, s3]
            refine wpAnyH_ready (rs := [36]) (by kernel_rfl) (by simp) ?_
            refine AllReadyH.cons rfl (fun K hK => ?_) ?_
            · rw [if_pos (by rfl)]
              go_simp
              go_at_call 57
              refine (in_any o.policy 255 true H6.out _).mono ?_
              rintro e v6 ⟨rfl, hv6⟩
              have hw6 := hv6.symm
              clear hv6
              subst hw6
              dsimp only
              refine hK.out _ _ (by assumption) (fun hHeld => ?_)
              clear hK K
              try simp only [Act.put, s1, s2, s3]
              refine tk 37 42 (.bool false) ?_
              try simp only [s1, s2, s3]
              refine tk 38 43 (.bool false) ?_
              try simp only [s1, s2, s3]
              refine tk 39 44 (.bool false) ?_
              try simp only [s1, s2, s3]
              refine tk 40 45 (.pointer (some ⟨x, 15, none⟩)) ?_
              try simp only [s1, s2, s3]
              refine tk 41 46 (.int .i64 o.bits) ?_ (hv := by (intro V hV; have hc := ka15 V hV.1; clear hV; go_simp; try rfl))
              try simp only [s1, s2, s3]
              refine wpAnyH_ready (rs := [42]) (by kernel_rfl) (by simp) ?_
              refine AllReadyH.cons rfl (fun K hK => ?_) ?_
              · rw [if_pos (by rfl)]
                go_simp
                go_at_call 57
                refine (in_any o.bits 255 true H7.out _).mono ?_
                rintro e v7 ⟨rfl, hv7⟩
                have hw7 := hv7.symm
                clear hv7
                subst hw7
                dsimp only
                refine hK.out _ _ (by assumption) (fun hHeld => ?_)
                clear hK K
                try simp only [Act.put, s1, s2, s3]
                refine tk 43 48 (.bool false) ?_
                try simp only [s1, s2, s3]
                refine tk 44 49 (.bool false) ?_
                try simp only [s1, s2, s3]
                refine tk 45 50 (.bool false) ?_
                try simp only [s1, s2, s3]
                refine tk 46 51 (.pointer (some ⟨x, 11, none⟩)) ?_
                try simp only [s1, s2, s3]
                refine tk 47 52 (.slice p.A o.fams.length p.c) ?_ (hv := by (intro V hV; have hc := ka11 V hV.1; clear hV; go_simp; try rfl))
                try simp only [s1, s2, s3]
                refine tk 48 53 (.int .i64 (o.fams.length : Nat)) ?_
                try simp only [s1, s2, s3]
                refine tk 49 54 (.bool false) ?_
                try simp only [s1, s2, s3]
                refine tk 50 55 (.bool false) ?_
                try simp only [s1, s2, s3]
                refine tk 51 56 (.bool false) ?_
                try simp only [s1, s2, s3]
                refine tk 52 57 (.pointer (some ⟨x, 6, none⟩)) ?_
                try simp only [s1, s2, s3]
                refine tk 53 58 (.slice l.A o.labels.length l.c) ?_ (hv := by (intro V hV; have hc := ka6 V hV.1; clear hV; go_simp; try rfl))
                try simp only [s1, s2, s3]
                refine tk 54 59 (.int .i64 (o.labels.length : Nat)) ?_
                try simp only [s1, s2, s3]
                refine tk 55 60 (.bool false) ?_
                try simp only [s1, s2, s3]
                refine tk 56 61 (.bool false) ?_
                try simp only [s1, s2, s3]
                refine wpAnyH_done (by kernel_rfl) ?_ _
                have HE := Lib.hid hHeld
                repeat clear hHeld
                clear h0 h1 h8 h9
                have BW := Lib.hid (B1.out.trans (belowLe B1.out.size HE.out.2))
                have RW := Lib.hid (R1.out.below HE.out.2)
                have kx11 := ka11 _ HE.out.1
                have kx6 := ka6 _ HE.out.1
                go_wp2
                go_loop [3] (fun j => ∃ k : Nat, k ≤ o.fams.length ∧ j = .int .i64 k ∧ Hid ((o.fams.take k).all (fun n => inR n 255) = true)) (fun j => o.fams.length - (intOf j).toNat)
                case atStart => exact ⟨0, Nat.zero_le _, rfl, Lib.hid (by simp)⟩
                case round =>
                  obtain ⟨k, hk, rfl, H⟩ := hrel
                  by_cases hkn : k < o.fams.length
                  · obtain ⟨u, hu⟩ : ∃ u, o.fams[k]? = some u := ⟨_, List.getElem?_eq_getElem hkn⟩
                    have h1 := flat_at cI 1 (fun _ => rfl) o.fams k u hu 0 (by omega)
                    obtain ⟨ad, hA, e1⟩ := RW.out.pr _ _ h1
                    simp only [Nat.mul_one, Nat.add_zero] at e1
                    rw [hA] at kx11
                    clear h1 hA
                    cases hin : inR u 255
                    · have hS : (o.fams.all fun n => inR n 255) = false := by rw [List.all_eq_false]; exact ⟨u, List.mem_of_getElem? hu, by rw [hin]; simp⟩
                      have HS := Lib.hid hS
                      have HC := Lib.hid (fun V => in_any u 255 false hin V)
                      clear hS hin hu
                      go_wp2_with (go_at_call 57; refine (HC.out _).mono ?_; rintro e w5 ⟨rfl, hw5⟩; have hw6 := hw5.symm; clear hw5; subst hw6)
                      go_ret
                      exact ⟨by rw [HP.out]; (try (rw [HS.out]; simp only [Bool.false_and])); rfl, BW.out⟩
                    · have hn : (o.fams.take (k + 1)).all (fun n => inR n 255) = true := by rw [List.take_add_one, hu, List.all_append, H.out]; simp [hin]
                      have HN := Lib.hid hn
                      have HC := Lib.hid (fun V => in_any u 255 true hin V)
                      clear hn hin hu
                      go_wp2_with (go_at_call 57; refine (HC.out _).mono ?_; rintro e w5 ⟨rfl, hw5⟩; have hw6 := hw5.symm; clear hw5; subst hw6)
                      go_round
                      case rel => exact ⟨k + 1, by omega, by go_num, HN⟩
                      case measure => simp [intOf]; omega
                  · obtain rfl : k = o.fams.length := by omega
                    have hFa := H.out
                    rw [List.take_length] at hFa
                    have HFa := Lib.hid hFa
                    clear hFa hkn
                    go_wp2
                    go_loop [4] (fun j => ∃ k : Nat, k ≤ o.labels.length ∧ j = .int .i64 k ∧ Hid ((o.labels.take k).all (fun p => decide (p.1.size ≤ 200 ∧ p.2.size ≤ 200)) = true)) (fun j => o.labels.length - (intOf j).toNat)
                    case atStart => exact ⟨0, Nat.zero_le _, rfl, Lib.hid (by simp)⟩
                    case round =>
                      obtain ⟨k, hk2, rfl, H⟩ := hrel
                      by_cases hkn : k < o.labels.length
                      · obtain ⟨u, hu⟩ : ∃ u, o.labels[k]? = some u := ⟨_, List.getElem?_eq_getElem hkn⟩
                        have h1 := flat_at cP 2 (fun _ => rfl) o.labels k u hu 0 (by omega)
                        have h2 := flat_at cP 2 (fun _ => rfl) o.labels k u hu 1 (by omega)
                        obtain ⟨ad, hA, e1⟩ := RW.out.lr _ _ h1
                        obtain ⟨bd, hB, e2⟩ := RW.out.lr _ _ h2
                        obtain rfl : ad = bd := by rw [hA] at hB; injection hB
                        rw [← addadd] at e1 e2
                        rw [hA] at kx6
                        have e0 : wS.cell? (ad.add (k * 2)) = some (.string u.1) := by rw [addr_add0] at e1; exact e1
                        have e3 : wS.cell? ⟨(ad.add (k * 2)).block, (ad.add (k * 2)).off + 1, none⟩ = some (.string u.2) := e2
                        clear e2
                        clear h1 h2 hA hB e1
                        by_cases hs1 : u.1.size ≤ 200
                        · by_cases hs2 : u.2.size ≤ 200
                          · have g1 : decide ((200 : Int) < u.1.size) = false := decide_eq_false (by omega)
                            have g2 : decide ((200 : Int) < u.2.size) = false := decide_eq_false (by omega)
                            have hn : (o.labels.take (k + 1)).all (fun p => decide (p.1.size ≤ 200 ∧ p.2.size ≤ 200)) = true := by rw [List.take_add_one, hu, List.all_append, H.out]; simp [hs1, hs2]
                            have HN := Lib.hid hn
                            clear hn hu
                            go_wp2
                            go_round
                            case rel => exact ⟨k + 1, by omega, by go_num, HN⟩
                            case measure => simp [intOf]; omega
                          · have g1 : decide ((200 : Int) < u.1.size) = false := decide_eq_false (by omega)
                            have g2 : decide ((200 : Int) < u.2.size) = true := decide_eq_true (by omega)
                            have hS : (o.labels.all fun p => decide (p.1.size ≤ 200 ∧ p.2.size ≤ 200)) = false := by rw [List.all_eq_false]; exact ⟨u, List.mem_of_getElem? hu, by simp [hs2]⟩
                            have HS := Lib.hid hS
                            clear hS hu
                            go_wp2
                            go_ret
                            exact ⟨by rw [HP.out]; (try (rw [HFa.out, HS.out]; simp only [Bool.false_and, Bool.true_and])); rfl, BW.out⟩
                        · have g1 : decide ((200 : Int) < u.1.size) = true := decide_eq_true (by omega)
                          have hS : (o.labels.all fun p => decide (p.1.size ≤ 200 ∧ p.2.size ≤ 200)) = false := by rw [List.all_eq_false]; exact ⟨u, List.mem_of_getElem? hu, by simp [hs1]⟩
                          have HS := Lib.hid hS
                          clear hS hu
                          go_wp2
                          go_ret
                          exact ⟨by rw [HP.out]; (try (rw [HFa.out, HS.out]; simp only [Bool.false_and, Bool.true_and])); rfl, BW.out⟩
                      · obtain rfl : k = o.labels.length := by omega
                        have hLa := H.out
                        rw [List.take_length] at hLa
                        have HLa := Lib.hid hLa
                        clear hLa hkn
                        have kx5 := ka5 _ HE.out.1
                        go_wp2_with (fail)
                        refine (rtextsI_any o.fins f.A f.c 4 4 rfl _ rfl (by omega) true T0.out _ (RW.out.fr)).mono ?_
                        rintro e u0 ⟨rfl, hbu0⟩
                        have BU0 := Lib.hid (show Below wS.heap.size wS u0 from hbu0)
                        have RW0 := Lib.hid (RW.out.below BU0.out)
                        have PU0 := Lib.hid ((BU0.out.block x (Array.getElem?_eq_some_iff.1 HE.out.1).1).trans HE.out.1)
                        clear hbu0
                        have ku0 := ka7 _ PU0.out
                        go_wp2_with (fail)
                        refine (rtextsI_any o.cidrs c.A c.c 8 8 rfl _ rfl (by omega) false T1.out _ (RW0.out.cr)).mono ?_
                        rintro e u1 ⟨rfl, hbu1⟩
                        have BU1 := Lib.hid (show Below wS.heap.size wS u1 from G.bthen BU0.out hbu1)
                        have RW1 := Lib.hid (RW.out.below BU1.out)
                        have PU1 := Lib.hid ((BU1.out.block x (Array.getElem?_eq_some_iff.1 HE.out.1).1).trans HE.out.1)
                        clear hbu1
                        have ku1 := ka12 _ PU1.out
                        go_wp2
                        go_ret
                        exact ⟨by rw [HP.out]; rfl, BW.out.trans (belowLe BW.out.size BU1.out)⟩
              exact AllReadyH.nil
            exact AllReadyH.nil
          exact AllReadyH.nil
        exact AllReadyH.nil
      exact AllReadyH.nil
    exact AllReadyH.nil
  exact AllReadyH.nil
set_option maxRecDepth 100000 in
set_option maxHeartbeats 8000000 in
theorem rshape_t2 (o : Ob) (f l c p i : Sl) (hs : o.fins.length ≤ 1000000 ∧ o.labels.length ≤ 1000000 ∧ o.cidrs.length ≤ 1000000 ∧ o.fams.length ≤ 1000000 ∧ o.ips.length ≤ 1000000) (h0 : decide (o.kind < 1) = false) (h1 : decide (4 < o.kind) = false) (h2 : only o = true) (h3 : inR o.uid 1099511627776 = true) (h4 : inR o.version 1099511627776 = true) (h5 : inR o.type 255 = true) (h6 : inR o.policy 255 = true) (h7 : inR o.bits 255 = true) (h8 : decide ((8 : Int) < (o.fams.length : Int)) = false) (h9 : decide ((16 : Int) < (o.labels.length : Int)) = false) (t0 : textsB o.fins 4 = true) (t1 : textsB o.cidrs 8 = true) (t2 : textsB o.ips 8 = false) (w : World) (hr : RowsR w o f l c p i) :
    Calls Try.prog 47 #[.agg (oc o f l c p i)] w fun e w' => e = .returned (.bool (CodP.shape o)) ∧ Below w.heap.size w w' := by
  have hP := shape_parts o
  have hk0 : inR (o.kind - 1) 3 = true := decide_eq_true (by have := of_decide_eq_false h0; have := of_decide_eq_false h1; omega)
  have hf8 : decide (o.fams.length ≤ 8) = true := decide_eq_true (by have := of_decide_eq_false h8; omega)
  have hl16 : decide (o.labels.length ≤ 16) = true := decide_eq_true (by have := of_decide_eq_false h9; omega)
  rw [hk0, h2, h3, h4, h5, h6, h7, hf8, hl16, t0, t1, t2] at hP
  simp only [Bool.true_and, Bool.and_true, Bool.false_and, Bool.and_false] at hP
  have HP := Lib.hid hP
  clear hP hk0 hf8 hl16
  have hfl : (o.fams.length : Int) ≤ 8 := by have := of_decide_eq_false h8; omega
  have hll : (o.labels.length : Int) ≤ 16 := by have := of_decide_eq_false h9; omega
  have T0 := Lib.hid t0
  clear t0
  have T1 := Lib.hid t1
  clear t1
  have T2 := Lib.hid t2
  clear t2
  obtain ⟨w1, hw1, b1, p1⟩ := box_one w (oc o f l c p i) 32
  obtain ⟨x, hx⟩ : ∃ x, x = w.heap.size := ⟨_, rfl⟩
  have lw := Lib.hid (show x < w1.heap.size by rw [hx]; exact (Array.getElem?_eq_some_iff.1 p1).1)
  rw [← hx] at p1
  have ka0 : ∀ V : World, V.heap[x]? = some (.cells (oc o f l c p i) 32 (0, 0)) → V.cell? ⟨x, 0, none⟩ = some (.int .i64 o.kind) := fun V hV => by simp [World.cell?, hV, oc]
  have ka1 : ∀ V : World, V.heap[x]? = some (.cells (oc o f l c p i) 32 (0, 0)) → V.cell? ⟨x, 1, none⟩ = some (.string o.name) := fun V hV => by simp [World.cell?, hV, oc]
  have ka2 : ∀ V : World, V.heap[x]? = some (.cells (oc o f l c p i) 32 (0, 0)) → V.cell? ⟨x, 2, none⟩ = some (.int .i64 o.uid) := fun V hV => by simp [World.cell?, hV, oc]
  have ka3 : ∀ V : World, V.heap[x]? = some (.cells (oc o f l c p i) 32 (0, 0)) → V.cell? ⟨x, 3, none⟩ = some (.int .i64 o.version) := fun V hV => by simp [World.cell?, hV, oc]
  have ka4 : ∀ V : World, V.heap[x]? = some (.cells (oc o f l c p i) 32 (0, 0)) → V.cell? ⟨x, 4, none⟩ = some (.bool o.deleting) := fun V hV => by simp [World.cell?, hV, oc]
  have ka5 : ∀ V : World, V.heap[x]? = some (.cells (oc o f l c p i) 32 (0, 0)) → V.cell? ⟨x, 5, none⟩ = some (.slice f.A o.fins.length f.c) := fun V hV => by simp [World.cell?, hV, oc]
  have ka6 : ∀ V : World, V.heap[x]? = some (.cells (oc o f l c p i) 32 (0, 0)) → V.cell? ⟨x, 6, none⟩ = some (.slice l.A o.labels.length l.c) := fun V hV => by simp [World.cell?, hV, oc]
  have ka7 : ∀ V : World, V.heap[x]? = some (.cells (oc o f l c p i) 32 (0, 0)) → V.cell? ⟨x, 7, none⟩ = some (.slice c.A o.cidrs.length c.c) := fun V hV => by simp [World.cell?, hV, oc]
  have ka8 : ∀ V : World, V.heap[x]? = some (.cells (oc o f l c p i) 32 (0, 0)) → V.cell? ⟨x, 8, none⟩ = some (.string o.status) := fun V hV => by simp [World.cell?, hV, oc]
  have ka9 : ∀ V : World, V.heap[x]? = some (.cells (oc o f l c p i) 32 (0, 0)) → V.cell? ⟨x, 9, none⟩ = some (.int .i64 o.type) := fun V hV => by simp [World.cell?, hV, oc]
  have ka10 : ∀ V : World, V.heap[x]? = some (.cells (oc o f l c p i) 32 (0, 0)) → V.cell? ⟨x, 10, none⟩ = some (.int .i64 o.policy) := fun V hV => by simp [World.cell?, hV, oc]
  have ka11 : ∀ V : World, V.heap[x]? = some (.cells (oc o f l c p i) 32 (0, 0)) → V.cell? ⟨x, 11, none⟩ = some (.slice p.A o.fams.length p.c) := fun V hV => by simp [World.cell?, hV, oc]
  have ka12 : ∀ V : World, V.heap[x]? = some (.cells (oc o f l c p i) 32 (0, 0)) → V.cell? ⟨x, 12, none⟩ = some (.slice i.A o.ips.length i.c) := fun V hV => by simp [World.cell?, hV, oc]
  have ka13 : ∀ V : World, V.heap[x]? = some (.cells (oc o f l c p i) 32 (0, 0)) → V.cell? ⟨x, 13, none⟩ = some (.string o.v4) := fun V hV => by simp [World.cell?, hV, oc]
  have ka14 : ∀ V : World, V.heap[x]? = some (.cells (oc o f l c p i) 32 (0, 0)) → V.cell? ⟨x, 14, none⟩ = some (.string o.v6) := fun V hV => by simp [World.cell?, hV, oc]
  have ka15 : ∀ V : World, V.heap[x]? = some (.cells (oc o f l c p i) 32 (0, 0)) → V.cell? ⟨x, 15, none⟩ = some (.int .i64 o.bits) := fun V hV => by simp [World.cell?, hV, oc]
  have ka16 : ∀ V : World, V.heap[x]? = some (.cells (oc o f l c p i) 32 (0, 0)) → V.cell? ⟨x, 16, none⟩ = some (.string o.sel) := fun V hV => by simp [World.cell?, hV, oc]
  have ka17 : ∀ V : World, V.heap[x]? = some (.cells (oc o f l c p i) 32 (0, 0)) → V.cell? ⟨x, 17, none⟩ = some (.string o.about) := fun V hV => by simp [World.cell?, hV, oc]
  have ka18 : ∀ V : World, V.heap[x]? = some (.cells (oc o f l c p i) 32 (0, 0)) → V.cell? ⟨x, 18, none⟩ = some (.string o.reason) := fun V hV => by simp [World.cell?, hV, oc]
  have R1 := Lib.hid (hr.below b1)
  have HSZ := Lib.hid hs
  have HK := Lib.hid (show 1 ≤ o.kind ∧ o.kind ≤ 4 from ⟨by have := of_decide_eq_false h0; omega, by have := of_decide_eq_false h1; omega⟩)
  have H2 := Lib.hid h2
  clear h2
  have H3 := Lib.hid h3
  clear h3
  have H4 := Lib.hid h4
  clear h4
  have H5 := Lib.hid h5
  clear h5
  have H6 := Lib.hid h6
  clear h6
  have H7 := Lib.hid h7
  clear h7
  have HW := Lib.hid hw1
  have B1 := Lib.hid b1
  have P1 := Lib.hid p1
  clear b1 p1 hw1 hr hs
  go_enter Try.func47, Try.ntmps47
  go_upto_region 1 with (fail)
  rw [← HW.out, ← hx]
  clear hx
  refine wp_region_held_drew (S := fun V => V.heap[x]? = some (.cells (oc o f l c p i) 32 (0, 0)) ∧ Below w1.heap.size w1 V) (by kernel_rfl) ⟨P1.out, ⟨rfl, rfl, rfl, Nat.le_refl _, fun _ _ => rfl⟩⟩ (fun hS0 => ?_)
  refine tk 0 5 (.pointer (some ⟨x, 0, none⟩)) ?_
  try simp only [s1, s2, s3]
  refine tk 1 6 (.int .i64 o.kind) ?_ (hv := by (intro V hV; have hc := ka0 V hV.1; clear hV; go_simp; try rfl))
  try simp only [s1, s2, s3]
  refine tk 2 7 (.bool false) ?_
  try simp only [s1, s2, s3]
  refine tk 3 8 (.bool false) ?_
  try simp only [s1, s2, s3]
  refine tk 4 9 (.pointer (some ⟨x, 0, none⟩)) ?_
  try simp only [s1, s2, s3]
  refine tk 5 10 (.int .i64 o.kind) ?_ (hv := by (intro V hV; have hc := ka0 V hV.1; clear hV; go_simp; try rfl))
  try simp only [s1, s2, s3]
  refine tk 6 11 (.bool false) ?_
  try simp only [s1, s2, s3]
  refine tk 7 12 (.bool false) ?_
  try simp only [s1, s2, s3]
  refine tk 8 13 (.bool false) ?_
  try simp only [s1, s2, s3]
  refine tk 9 14 (.agg (oc o f l c p i)) ?_ (hv := by exact load_row_yields 32 (.tmp 1) rfl x rfl 32 (oc o f l c p i) (0, 0) _ (fun V hV => hV.1) Try.underlying32 rfl size32)
  try simp only [s1, s2, s3]
  refine tk 10 15 (.agg (oc o f l c p i)) ?_ (hv := by exact load_row_yields 32 (.tmp 1) rfl x rfl 32 (oc o f l c p i) (0, 0) _ (fun V hV => hV.1) Try.underlying32 rfl size32)
  try simp only [s1, s2, s3]
  refine wpAnyH_ready (rs := [11]) (by kernel_rfl) (by simp) ?_
  refine AllReadyH.cons rfl (fun K hK => ?_) ?_
  · rw [if_pos (by rfl)]
    go_simp
    go_at_call 81
    refine (only_any o f l c p i HK.out _ (R1.out.below (And.right ‹_ ∧ _›))).mono ?_
    rintro e wO ⟨f', l', c', p', i', rfl, hro, hbO⟩
    dsimp only
    refine hK.out _ _ (keepX lw.out (by assumption) hbO) (fun hHeld => ?_)
    clear hK K
    try simp only [Act.put, s1, s2, s3]
    refine wpAnyH_ready (rs := [12]) (by kernel_rfl) (by simp) ?_
    refine AllReadyH.cons rfl (fun K hK => ?_) ?_
    · rw [if_pos (by rfl)]
      go_simp
      go_at_call 18
      refine (same14_any o (onlyO o) f l c p i f' l' c' p' i' HSZ.out wO (R1.out.below hHeld.2) hro).mono ?_
      rw [only_same o HK.out, H2.out]
      rintro e wS ⟨rfl, hbS⟩
      dsimp only
      refine hK.out _ _ (keepX lw.out (by assumption) hbS) (fun hHeld => ?_)
      clear hK K
      try simp only [Act.put, s1, s2, s3]
      refine tk 13 18 (.bool false) ?_
      try simp only [s1, s2, s3]
      refine tk 14 19 (.bool false) ?_
      try simp only [s1, s2, s3]
      refine tk 15 20 (.bool false) ?_
      try simp only [s1, s2, s3]
      refine tk 16 21 (.pointer (some ⟨x, 2, none⟩)) ?_
      try simp only [s1, s2, s3]
      refine tk 17 22 (.int .i64 o.uid) ?_ (hv := by (intro V hV; have hc := ka2 V hV.1; clear hV; go_simp; try rfl))
      try simp only [s1, s2, s3]
      refine wpAnyH_ready (rs := [18]) (by kernel_rfl) (by simp) ?_
      refine AllReadyH.cons rfl (fun K hK => ?_) ?_
      · rw [if_pos (by rfl)]
        go_simp
        go_at_call 57
        refine (in_any o.uid 1099511627776 true H3.out _).mono ?_
        rintro e v3 ⟨rfl, hv3⟩
        have hw3 := hv3.symm
        clear hv3
        subst hw3
        dsimp only
        refine hK.out _ _ (by assumption) (fun hHeld => ?_)
        clear hK K
        try simp only [Act.put, s1, s2, s3]
        refine tk 19 24 (.bool false) ?_
        try simp only [s1, s2, s3]
        refine tk 20 25 (.bool false) ?_
        try simp only [s1, s2, s3]
        refine tk 21 26 (.bool false) ?_
        try simp only [s1, s2, s3]
        refine tk 22 27 (.pointer (some ⟨x, 3, none⟩)) ?_
        try simp only [s1, s2, s3]
        refine tk 23 28 (.int .i64 o.version) ?_ (hv := by (intro V hV; have hc := ka3 V hV.1; clear hV; go_simp; try rfl))
        try simp only [s1, s2, s3]
        refine wpAnyH_ready (rs := [24]) (by kernel_rfl) (by simp) ?_
        refine AllReadyH.cons rfl (fun K hK => ?_) ?_
        · rw [if_pos (by rfl)]
          go_simp
          go_at_call 57
          refine (in_any o.version 1099511627776 true H4.out _).mono ?_
          rintro e v4 ⟨rfl, hv4⟩
          have hw4 := hv4.symm
          clear hv4
          subst hw4
          dsimp only
          refine hK.out _ _ (by assumption) (fun hHeld => ?_)
          clear hK K
          try simp only [Act.put, s1, s2, s3]
          refine tk 25 30 (.bool false) ?_
          try simp only [s1, s2, s3]
          refine tk 26 31 (.bool false) ?_
          try simp only [s1, s2, s3]
          refine tk 27 32 (.bool false) ?_
          try simp only [s1, s2, s3]
          refine tk 28 33 (.pointer (some ⟨x, 9, none⟩)) ?_
          try simp only [s1, s2, s3]
          refine tk 29 34 (.int .i64 o.type) ?_ (hv := by (intro V hV; have hc := ka9 V hV.1; clear hV; go_simp; try rfl))
          try simp only [s1, s2, s3]
          refine wpAnyH_ready (rs := [30]) (by kernel_rfl) (by simp) ?_
          refine AllReadyH.cons rfl (fun K hK => ?_) ?_
          · rw [if_pos (by rfl)]
            go_simp
            go_at_call 57
            refine (in_any o.type 255 true H5.out _).mono ?_
            rintro e v5 ⟨rfl, hv5⟩
            have hw5 := hv5.symm
            clear hv5
            subst hw5
            dsimp only
            refine hK.out _ _ (by assumption) (fun hHeld => ?_)
            clear hK K
            try simp only [Act.put, s1, s2, s3]
            refine tk 31 36 (.bool false) ?_
            try simp only [s1, s2, s3]
            refine tk 32 37 (.bool false) ?_
            try simp only [s1, s2, s3]
            refine tk 33 38 (.bool false) ?_
            try simp only [s1, s2, s3]
            refine tk 34 39 (.pointer (some ⟨x, 10, none⟩)) ?_
            try simp only [s1, s2, s3]
            refine tk 35 40 (.int .i64 o.policy) ?_ (hv := by (intro V hV; have hc := ka10 V hV.1; clear hV; go_simp; try rfl))
            try simp only [s1, s2, s3]
            refine wpAnyH_ready (rs := [36]) (by kernel_rfl) (by simp) ?_
            refine AllReadyH.cons rfl (fun K hK => ?_) ?_
            · rw [if_pos (by rfl)]
              go_simp
              go_at_call 57
              refine (in_any o.policy 255 true H6.out _).mono ?_
              rintro e v6 ⟨rfl, hv6⟩
              have hw6 := hv6.symm
              clear hv6
              subst hw6
              dsimp only
              refine hK.out _ _ (by assumption) (fun hHeld => ?_)
              clear hK K
              try simp only [Act.put, s1, s2, s3]
              refine tk 37 42 (.bool false) ?_
              try simp only [s1, s2, s3]
              refine tk 38 43 (.bool false) ?_
              try simp only [s1, s2, s3]
              refine tk 39 44 (.bool false) ?_
              try simp only [s1, s2, s3]
              refine tk 40 45 (.pointer (some ⟨x, 15, none⟩)) ?_
              try simp only [s1, s2, s3]
              refine tk 41 46 (.int .i64 o.bits) ?_ (hv := by (intro V hV; have hc := ka15 V hV.1; clear hV; go_simp; try rfl))
              try simp only [s1, s2, s3]
              refine wpAnyH_ready (rs := [42]) (by kernel_rfl) (by simp) ?_
              refine AllReadyH.cons rfl (fun K hK => ?_) ?_
              · rw [if_pos (by rfl)]
                go_simp
                go_at_call 57
                refine (in_any o.bits 255 true H7.out _).mono ?_
                rintro e v7 ⟨rfl, hv7⟩
                have hw7 := hv7.symm
                clear hv7
                subst hw7
                dsimp only
                refine hK.out _ _ (by assumption) (fun hHeld => ?_)
                clear hK K
                try simp only [Act.put, s1, s2, s3]
                refine tk 43 48 (.bool false) ?_
                try simp only [s1, s2, s3]
                refine tk 44 49 (.bool false) ?_
                try simp only [s1, s2, s3]
                refine tk 45 50 (.bool false) ?_
                try simp only [s1, s2, s3]
                refine tk 46 51 (.pointer (some ⟨x, 11, none⟩)) ?_
                try simp only [s1, s2, s3]
                refine tk 47 52 (.slice p.A o.fams.length p.c) ?_ (hv := by (intro V hV; have hc := ka11 V hV.1; clear hV; go_simp; try rfl))
                try simp only [s1, s2, s3]
                refine tk 48 53 (.int .i64 (o.fams.length : Nat)) ?_
                try simp only [s1, s2, s3]
                refine tk 49 54 (.bool false) ?_
                try simp only [s1, s2, s3]
                refine tk 50 55 (.bool false) ?_
                try simp only [s1, s2, s3]
                refine tk 51 56 (.bool false) ?_
                try simp only [s1, s2, s3]
                refine tk 52 57 (.pointer (some ⟨x, 6, none⟩)) ?_
                try simp only [s1, s2, s3]
                refine tk 53 58 (.slice l.A o.labels.length l.c) ?_ (hv := by (intro V hV; have hc := ka6 V hV.1; clear hV; go_simp; try rfl))
                try simp only [s1, s2, s3]
                refine tk 54 59 (.int .i64 (o.labels.length : Nat)) ?_
                try simp only [s1, s2, s3]
                refine tk 55 60 (.bool false) ?_
                try simp only [s1, s2, s3]
                refine tk 56 61 (.bool false) ?_
                try simp only [s1, s2, s3]
                refine wpAnyH_done (by kernel_rfl) ?_ _
                have HE := Lib.hid hHeld
                repeat clear hHeld
                clear h0 h1 h8 h9
                have BW := Lib.hid (B1.out.trans (belowLe B1.out.size HE.out.2))
                have RW := Lib.hid (R1.out.below HE.out.2)
                have kx11 := ka11 _ HE.out.1
                have kx6 := ka6 _ HE.out.1
                go_wp2
                go_loop [3] (fun j => ∃ k : Nat, k ≤ o.fams.length ∧ j = .int .i64 k ∧ Hid ((o.fams.take k).all (fun n => inR n 255) = true)) (fun j => o.fams.length - (intOf j).toNat)
                case atStart => exact ⟨0, Nat.zero_le _, rfl, Lib.hid (by simp)⟩
                case round =>
                  obtain ⟨k, hk, rfl, H⟩ := hrel
                  by_cases hkn : k < o.fams.length
                  · obtain ⟨u, hu⟩ : ∃ u, o.fams[k]? = some u := ⟨_, List.getElem?_eq_getElem hkn⟩
                    have h1 := flat_at cI 1 (fun _ => rfl) o.fams k u hu 0 (by omega)
                    obtain ⟨ad, hA, e1⟩ := RW.out.pr _ _ h1
                    simp only [Nat.mul_one, Nat.add_zero] at e1
                    rw [hA] at kx11
                    clear h1 hA
                    cases hin : inR u 255
                    · have hS : (o.fams.all fun n => inR n 255) = false := by rw [List.all_eq_false]; exact ⟨u, List.mem_of_getElem? hu, by rw [hin]; simp⟩
                      have HS := Lib.hid hS
                      have HC := Lib.hid (fun V => in_any u 255 false hin V)
                      clear hS hin hu
                      go_wp2_with (go_at_call 57; refine (HC.out _).mono ?_; rintro e w5 ⟨rfl, hw5⟩; have hw6 := hw5.symm; clear hw5; subst hw6)
                      go_ret
                      exact ⟨by rw [HP.out]; (try (rw [HS.out]; simp only [Bool.false_and])); rfl, BW.out⟩
                    · have hn : (o.fams.take (k + 1)).all (fun n => inR n 255) = true := by rw [List.take_add_one, hu, List.all_append, H.out]; simp [hin]
                      have HN := Lib.hid hn
                      have HC := Lib.hid (fun V => in_any u 255 true hin V)
                      clear hn hin hu
                      go_wp2_with (go_at_call 57; refine (HC.out _).mono ?_; rintro e w5 ⟨rfl, hw5⟩; have hw6 := hw5.symm; clear hw5; subst hw6)
                      go_round
                      case rel => exact ⟨k + 1, by omega, by go_num, HN⟩
                      case measure => simp [intOf]; omega
                  · obtain rfl : k = o.fams.length := by omega
                    have hFa := H.out
                    rw [List.take_length] at hFa
                    have HFa := Lib.hid hFa
                    clear hFa hkn
                    go_wp2
                    go_loop [4] (fun j => ∃ k : Nat, k ≤ o.labels.length ∧ j = .int .i64 k ∧ Hid ((o.labels.take k).all (fun p => decide (p.1.size ≤ 200 ∧ p.2.size ≤ 200)) = true)) (fun j => o.labels.length - (intOf j).toNat)
                    case atStart => exact ⟨0, Nat.zero_le _, rfl, Lib.hid (by simp)⟩
                    case round =>
                      obtain ⟨k, hk2, rfl, H⟩ := hrel
                      by_cases hkn : k < o.labels.length
                      · obtain ⟨u, hu⟩ : ∃ u, o.labels[k]? = some u := ⟨_, List.getElem?_eq_getElem hkn⟩
                        have h1 := flat_at cP 2 (fun _ => rfl) o.labels k u hu 0 (by omega)
                        have h2 := flat_at cP 2 (fun _ => rfl) o.labels k u hu 1 (by omega)
                        obtain ⟨ad, hA, e1⟩ := RW.out.lr _ _ h1
                        obtain ⟨bd, hB, e2⟩ := RW.out.lr _ _ h2
                        obtain rfl : ad = bd := by rw [hA] at hB; injection hB
                        rw [← addadd] at e1 e2
                        rw [hA] at kx6
                        have e0 : wS.cell? (ad.add (k * 2)) = some (.string u.1) := by rw [addr_add0] at e1; exact e1
                        have e3 : wS.cell? ⟨(ad.add (k * 2)).block, (ad.add (k * 2)).off + 1, none⟩ = some (.string u.2) := e2
                        clear e2
                        clear h1 h2 hA hB e1
                        by_cases hs1 : u.1.size ≤ 200
                        · by_cases hs2 : u.2.size ≤ 200
                          · have g1 : decide ((200 : Int) < u.1.size) = false := decide_eq_false (by omega)
                            have g2 : decide ((200 : Int) < u.2.size) = false := decide_eq_false (by omega)
                            have hn : (o.labels.take (k + 1)).all (fun p => decide (p.1.size ≤ 200 ∧ p.2.size ≤ 200)) = true := by rw [List.take_add_one, hu, List.all_append, H.out]; simp [hs1, hs2]
                            have HN := Lib.hid hn
                            clear hn hu
                            go_wp2
                            go_round
                            case rel => exact ⟨k + 1, by omega, by go_num, HN⟩
                            case measure => simp [intOf]; omega
                          · have g1 : decide ((200 : Int) < u.1.size) = false := decide_eq_false (by omega)
                            have g2 : decide ((200 : Int) < u.2.size) = true := decide_eq_true (by omega)
                            have hS : (o.labels.all fun p => decide (p.1.size ≤ 200 ∧ p.2.size ≤ 200)) = false := by rw [List.all_eq_false]; exact ⟨u, List.mem_of_getElem? hu, by simp [hs2]⟩
                            have HS := Lib.hid hS
                            clear hS hu
                            go_wp2
                            go_ret
                            exact ⟨by rw [HP.out]; (try (rw [HFa.out, HS.out]; simp only [Bool.false_and, Bool.true_and])); rfl, BW.out⟩
                        · have g1 : decide ((200 : Int) < u.1.size) = true := decide_eq_true (by omega)
                          have hS : (o.labels.all fun p => decide (p.1.size ≤ 200 ∧ p.2.size ≤ 200)) = false := by rw [List.all_eq_false]; exact ⟨u, List.mem_of_getElem? hu, by simp [hs1]⟩
                          have HS := Lib.hid hS
                          clear hS hu
                          go_wp2
                          go_ret
                          exact ⟨by rw [HP.out]; (try (rw [HFa.out, HS.out]; simp only [Bool.false_and, Bool.true_and])); rfl, BW.out⟩
                      · obtain rfl : k = o.labels.length := by omega
                        have hLa := H.out
                        rw [List.take_length] at hLa
                        have HLa := Lib.hid hLa
                        clear hLa hkn
                        have kx5 := ka5 _ HE.out.1
                        go_wp2_with (fail)
                        refine (rtextsI_any o.fins f.A f.c 4 4 rfl _ rfl (by omega) true T0.out _ (RW.out.fr)).mono ?_
                        rintro e u0 ⟨rfl, hbu0⟩
                        have BU0 := Lib.hid (show Below wS.heap.size wS u0 from hbu0)
                        have RW0 := Lib.hid (RW.out.below BU0.out)
                        have PU0 := Lib.hid ((BU0.out.block x (Array.getElem?_eq_some_iff.1 HE.out.1).1).trans HE.out.1)
                        clear hbu0
                        have ku0 := ka7 _ PU0.out
                        go_wp2_with (fail)
                        refine (rtextsI_any o.cidrs c.A c.c 8 8 rfl _ rfl (by omega) true T1.out _ (RW0.out.cr)).mono ?_
                        rintro e u1 ⟨rfl, hbu1⟩
                        have BU1 := Lib.hid (show Below wS.heap.size wS u1 from G.bthen BU0.out hbu1)
                        have RW1 := Lib.hid (RW.out.below BU1.out)
                        have PU1 := Lib.hid ((BU1.out.block x (Array.getElem?_eq_some_iff.1 HE.out.1).1).trans HE.out.1)
                        clear hbu1
                        have ku1 := ka12 _ PU1.out
                        go_wp2_with (fail)
                        refine (rtextsI_any o.ips i.A i.c 8 8 rfl _ rfl (by omega) false T2.out _ (RW1.out.ir)).mono ?_
                        rintro e u2 ⟨rfl, hbu2⟩
                        have BU2 := Lib.hid (show Below wS.heap.size wS u2 from G.bthen BU1.out hbu2)
                        have RW2 := Lib.hid (RW.out.below BU2.out)
                        have PU2 := Lib.hid ((BU2.out.block x (Array.getElem?_eq_some_iff.1 HE.out.1).1).trans HE.out.1)
                        clear hbu2
                        go_wp2
                        go_ret
                        exact ⟨by rw [HP.out]; rfl, BW.out.trans (belowLe BW.out.size BU2.out)⟩
              exact AllReadyH.nil
            exact AllReadyH.nil
          exact AllReadyH.nil
        exact AllReadyH.nil
      exact AllReadyH.nil
    exact AllReadyH.nil
  exact AllReadyH.nil
set_option maxRecDepth 100000 in
set_option maxHeartbeats 8000000 in
theorem rshape_t3 (o : Ob) (f l c p i : Sl) (hs : o.fins.length ≤ 1000000 ∧ o.labels.length ≤ 1000000 ∧ o.cidrs.length ≤ 1000000 ∧ o.fams.length ≤ 1000000 ∧ o.ips.length ≤ 1000000) (h0 : decide (o.kind < 1) = false) (h1 : decide (4 < o.kind) = false) (h2 : only o = true) (h3 : inR o.uid 1099511627776 = true) (h4 : inR o.version 1099511627776 = true) (h5 : inR o.type 255 = true) (h6 : inR o.policy 255 = true) (h7 : inR o.bits 255 = true) (h8 : decide ((8 : Int) < (o.fams.length : Int)) = false) (h9 : decide ((16 : Int) < (o.labels.length : Int)) = false) (t0 : textsB o.fins 4 = true) (t1 : textsB o.cidrs 8 = true) (t2 : textsB o.ips 8 = true) (t3 : textsB [o.name, o.status, o.v4, o.v6, o.sel, o.about, o.reason] 7 = false) (w : World) (hr : RowsR w o f l c p i) :
    Calls Try.prog 47 #[.agg (oc o f l c p i)] w fun e w' => e = .returned (.bool (CodP.shape o)) ∧ Below w.heap.size w w' := by
  have hP := shape_parts o
  have hk0 : inR (o.kind - 1) 3 = true := decide_eq_true (by have := of_decide_eq_false h0; have := of_decide_eq_false h1; omega)
  have hf8 : decide (o.fams.length ≤ 8) = true := decide_eq_true (by have := of_decide_eq_false h8; omega)
  have hl16 : decide (o.labels.length ≤ 16) = true := decide_eq_true (by have := of_decide_eq_false h9; omega)
  rw [hk0, h2, h3, h4, h5, h6, h7, hf8, hl16, t0, t1, t2, t3] at hP
  simp only [Bool.true_and, Bool.and_true, Bool.false_and, Bool.and_false] at hP
  have HP := Lib.hid hP
  clear hP hk0 hf8 hl16
  have hfl : (o.fams.length : Int) ≤ 8 := by have := of_decide_eq_false h8; omega
  have hll : (o.labels.length : Int) ≤ 16 := by have := of_decide_eq_false h9; omega
  have T0 := Lib.hid t0
  clear t0
  have T1 := Lib.hid t1
  clear t1
  have T2 := Lib.hid t2
  clear t2
  have T3 := Lib.hid t3
  clear t3
  obtain ⟨w1, hw1, b1, p1⟩ := box_one w (oc o f l c p i) 32
  obtain ⟨x, hx⟩ : ∃ x, x = w.heap.size := ⟨_, rfl⟩
  have lw := Lib.hid (show x < w1.heap.size by rw [hx]; exact (Array.getElem?_eq_some_iff.1 p1).1)
  rw [← hx] at p1
  have ka0 : ∀ V : World, V.heap[x]? = some (.cells (oc o f l c p i) 32 (0, 0)) → V.cell? ⟨x, 0, none⟩ = some (.int .i64 o.kind) := fun V hV => by simp [World.cell?, hV, oc]
  have ka1 : ∀ V : World, V.heap[x]? = some (.cells (oc o f l c p i) 32 (0, 0)) → V.cell? ⟨x, 1, none⟩ = some (.string o.name) := fun V hV => by simp [World.cell?, hV, oc]
  have ka2 : ∀ V : World, V.heap[x]? = some (.cells (oc o f l c p i) 32 (0, 0)) → V.cell? ⟨x, 2, none⟩ = some (.int .i64 o.uid) := fun V hV => by simp [World.cell?, hV, oc]
  have ka3 : ∀ V : World, V.heap[x]? = some (.cells (oc o f l c p i) 32 (0, 0)) → V.cell? ⟨x, 3, none⟩ = some (.int .i64 o.version) := fun V hV => by simp [World.cell?, hV, oc]
  have ka4 : ∀ V : World, V.heap[x]? = some (.cells (oc o f l c p i) 32 (0, 0)) → V.cell? ⟨x, 4, none⟩ = some (.bool o.deleting) := fun V hV => by simp [World.cell?, hV, oc]
  have ka5 : ∀ V : World, V.heap[x]? = some (.cells (oc o f l c p i) 32 (0, 0)) → V.cell? ⟨x, 5, none⟩ = some (.slice f.A o.fins.length f.c) := fun V hV => by simp [World.cell?, hV, oc]
  have ka6 : ∀ V : World, V.heap[x]? = some (.cells (oc o f l c p i) 32 (0, 0)) → V.cell? ⟨x, 6, none⟩ = some (.slice l.A o.labels.length l.c) := fun V hV => by simp [World.cell?, hV, oc]
  have ka7 : ∀ V : World, V.heap[x]? = some (.cells (oc o f l c p i) 32 (0, 0)) → V.cell? ⟨x, 7, none⟩ = some (.slice c.A o.cidrs.length c.c) := fun V hV => by simp [World.cell?, hV, oc]
  have ka8 : ∀ V : World, V.heap[x]? = some (.cells (oc o f l c p i) 32 (0, 0)) → V.cell? ⟨x, 8, none⟩ = some (.string o.status) := fun V hV => by simp [World.cell?, hV, oc]
  have ka9 : ∀ V : World, V.heap[x]? = some (.cells (oc o f l c p i) 32 (0, 0)) → V.cell? ⟨x, 9, none⟩ = some (.int .i64 o.type) := fun V hV => by simp [World.cell?, hV, oc]
  have ka10 : ∀ V : World, V.heap[x]? = some (.cells (oc o f l c p i) 32 (0, 0)) → V.cell? ⟨x, 10, none⟩ = some (.int .i64 o.policy) := fun V hV => by simp [World.cell?, hV, oc]
  have ka11 : ∀ V : World, V.heap[x]? = some (.cells (oc o f l c p i) 32 (0, 0)) → V.cell? ⟨x, 11, none⟩ = some (.slice p.A o.fams.length p.c) := fun V hV => by simp [World.cell?, hV, oc]
  have ka12 : ∀ V : World, V.heap[x]? = some (.cells (oc o f l c p i) 32 (0, 0)) → V.cell? ⟨x, 12, none⟩ = some (.slice i.A o.ips.length i.c) := fun V hV => by simp [World.cell?, hV, oc]
  have ka13 : ∀ V : World, V.heap[x]? = some (.cells (oc o f l c p i) 32 (0, 0)) → V.cell? ⟨x, 13, none⟩ = some (.string o.v4) := fun V hV => by simp [World.cell?, hV, oc]
  have ka14 : ∀ V : World, V.heap[x]? = some (.cells (oc o f l c p i) 32 (0, 0)) → V.cell? ⟨x, 14, none⟩ = some (.string o.v6) := fun V hV => by simp [World.cell?, hV, oc]
  have ka15 : ∀ V : World, V.heap[x]? = some (.cells (oc o f l c p i) 32 (0, 0)) → V.cell? ⟨x, 15, none⟩ = some (.int .i64 o.bits) := fun V hV => by simp [World.cell?, hV, oc]
  have ka16 : ∀ V : World, V.heap[x]? = some (.cells (oc o f l c p i) 32 (0, 0)) → V.cell? ⟨x, 16, none⟩ = some (.string o.sel) := fun V hV => by simp [World.cell?, hV, oc]
  have ka17 : ∀ V : World, V.heap[x]? = some (.cells (oc o f l c p i) 32 (0, 0)) → V.cell? ⟨x, 17, none⟩ = some (.string o.about) := fun V hV => by simp [World.cell?, hV, oc]
  have ka18 : ∀ V : World, V.heap[x]? = some (.cells (oc o f l c p i) 32 (0, 0)) → V.cell? ⟨x, 18, none⟩ = some (.string o.reason) := fun V hV => by simp [World.cell?, hV, oc]
  have R1 := Lib.hid (hr.below b1)
  have HSZ := Lib.hid hs
  have HK := Lib.hid (show 1 ≤ o.kind ∧ o.kind ≤ 4 from ⟨by have := of_decide_eq_false h0; omega, by have := of_decide_eq_false h1; omega⟩)
  have H2 := Lib.hid h2
  clear h2
  have H3 := Lib.hid h3
  clear h3
  have H4 := Lib.hid h4
  clear h4
  have H5 := Lib.hid h5
  clear h5
  have H6 := Lib.hid h6
  clear h6
  have H7 := Lib.hid h7
  clear h7
  have HW := Lib.hid hw1
  have B1 := Lib.hid b1
  have P1 := Lib.hid p1
  clear b1 p1 hw1 hr hs
  go_enter Try.func47, Try.ntmps47
  go_upto_region 1 with (fail)
  rw [← HW.out, ← hx]
  clear hx
  refine wp_region_held_drew (S := fun V => V.heap[x]? = some (.cells (oc o f l c p i) 32 (0, 0)) ∧ Below w1.heap.size w1 V) (by kernel_rfl) ⟨P1.out, ⟨rfl, rfl, rfl, Nat.le_refl _, fun _ _ => rfl⟩⟩ (fun hS0 => ?_)
  refine tk 0 5 (.pointer (some ⟨x, 0, none⟩)) ?_
  try simp only [s1, s2, s3]
  refine tk 1 6 (.int .i64 o.kind) ?_ (hv := by (intro V hV; have hc := ka0 V hV.1; clear hV; go_simp; try rfl))
  try simp only [s1, s2, s3]
  refine tk 2 7 (.bool false) ?_
  try simp only [s1, s2, s3]
  refine tk 3 8 (.bool false) ?_
  try simp only [s1, s2, s3]
  refine tk 4 9 (.pointer (some ⟨x, 0, none⟩)) ?_
  try simp only [s1, s2, s3]
  refine tk 5 10 (.int .i64 o.kind) ?_ (hv := by (intro V hV; have hc := ka0 V hV.1; clear hV; go_simp; try rfl))
  try simp only [s1, s2, s3]
  refine tk 6 11 (.bool false) ?_
  try simp only [s1, s2, s3]
  refine tk 7 12 (.bool false) ?_
  try simp only [s1, s2, s3]
  refine tk 8 13 (.bool false) ?_
  try simp only [s1, s2, s3]
  refine tk 9 14 (.agg (oc o f l c p i)) ?_ (hv := by exact load_row_yields 32 (.tmp 1) rfl x rfl 32 (oc o f l c p i) (0, 0) _ (fun V hV => hV.1) Try.underlying32 rfl size32)
  try simp only [s1, s2, s3]
  refine tk 10 15 (.agg (oc o f l c p i)) ?_ (hv := by exact load_row_yields 32 (.tmp 1) rfl x rfl 32 (oc o f l c p i) (0, 0) _ (fun V hV => hV.1) Try.underlying32 rfl size32)
  try simp only [s1, s2, s3]
  refine wpAnyH_ready (rs := [11]) (by kernel_rfl) (by simp) ?_
  refine AllReadyH.cons rfl (fun K hK => ?_) ?_
  · rw [if_pos (by rfl)]
    go_simp
    go_at_call 81
    refine (only_any o f l c p i HK.out _ (R1.out.below (And.right ‹_ ∧ _›))).mono ?_
    rintro e wO ⟨f', l', c', p', i', rfl, hro, hbO⟩
    dsimp only
    refine hK.out _ _ (keepX lw.out (by assumption) hbO) (fun hHeld => ?_)
    clear hK K
    try simp only [Act.put, s1, s2, s3]
    refine wpAnyH_ready (rs := [12]) (by kernel_rfl) (by simp) ?_
    refine AllReadyH.cons rfl (fun K hK => ?_) ?_
    · rw [if_pos (by rfl)]
      go_simp
      go_at_call 18
      refine (same14_any o (onlyO o) f l c p i f' l' c' p' i' HSZ.out wO (R1.out.below hHeld.2) hro).mono ?_
      rw [only_same o HK.out, H2.out]
      rintro e wS ⟨rfl, hbS⟩
      dsimp only
      refine hK.out _ _ (keepX lw.out (by assumption) hbS) (fun hHeld => ?_)
      clear hK K
      try simp only [Act.put, s1, s2, s3]
      refine tk 13 18 (.bool false) ?_
      try simp only [s1, s2, s3]
      refine tk 14 19 (.bool false) ?_
      try simp only [s1, s2, s3]
      refine tk 15 20 (.bool false) ?_
      try simp only [s1, s2, s3]
      refine tk 16 21 (.pointer (some ⟨x, 2, none⟩)) ?_
      try simp only [s1, s2, s3]
      refine tk 17 22 (.int .i64 o.uid) ?_ (hv := by (intro V hV; have hc := ka2 V hV.1; clear hV; go_simp; try rfl))
      try simp only [s1, s2, s3]
      refine wpAnyH_ready (rs := [18]) (by kernel_rfl) (by simp) ?_
      refine AllReadyH.cons rfl (fun K hK => ?_) ?_
      · rw [if_pos (by rfl)]
        go_simp
        go_at_call 57
        refine (in_any o.uid 1099511627776 true H3.out _).mono ?_
        rintro e v3 ⟨rfl, hv3⟩
        have hw3 := hv3.symm
        clear hv3
        subst hw3
        dsimp only
        refine hK.out _ _ (by assumption) (fun hHeld => ?_)
        clear hK K
        try simp only [Act.put, s1, s2, s3]
        refine tk 19 24 (.bool false) ?_
        try simp only [s1, s2, s3]
        refine tk 20 25 (.bool false) ?_
        try simp only [s1, s2, s3]
        refine tk 21 26 (.bool false) ?_
        try simp only [s1, s2, s3]
        refine tk 22 27 (.pointer (some ⟨x, 3, none⟩)) ?_
        try simp only [s1, s2, s3]
        refine tk 23 28 (.int .i64 o.version) ?_ (hv := by (intro V hV; have hc := ka3 V hV.1; clear hV; go_simp; try rfl))
        try simp only [s1, s2, s3]
        refine wpAnyH_ready (rs := [24]) (by kernel_rfl) (by simp) ?_
        refine AllReadyH.cons rfl (fun K hK => ?_) ?_
        · rw [if_pos (by rfl)]
          go_simp
          go_at_call 57
          refine (in_any o.version 1099511627776 true H4.out _).mono ?_
          rintro e v4 ⟨rfl, hv4⟩
          have hw4 := hv4.symm
          clear hv4
          subst hw4
          dsimp only
          refine hK.out _ _ (by assumption) (fun hHeld => ?_)
          clear hK K
          try simp only [Act.put, s1, s2, s3]
          refine tk 25 30 (.bool false) ?_
          try simp only [s1, s2, s3]
          refine tk 26 31 (.bool false) ?_
          try simp only [s1, s2, s3]
          refine tk 27 32 (.bool false) ?_
          try simp only [s1, s2, s3]
          refine tk 28 33 (.pointer (some ⟨x, 9, none⟩)) ?_
          try simp only [s1, s2, s3]
          refine tk 29 34 (.int .i64 o.type) ?_ (hv := by (intro V hV; have hc := ka9 V hV.1; clear hV; go_simp; try rfl))
          try simp only [s1, s2, s3]
          refine wpAnyH_ready (rs := [30]) (by kernel_rfl) (by simp) ?_
          refine AllReadyH.cons rfl (fun K hK => ?_) ?_
          · rw [if_pos (by rfl)]
            go_simp
            go_at_call 57
            refine (in_any o.type 255 true H5.out _).mono ?_
            rintro e v5 ⟨rfl, hv5⟩
            have hw5 := hv5.symm
            clear hv5
            subst hw5
            dsimp only
            refine hK.out _ _ (by assumption) (fun hHeld => ?_)
            clear hK K
            try simp only [Act.put, s1, s2, s3]
            refine tk 31 36 (.bool false) ?_
            try simp only [s1, s2, s3]
            refine tk 32 37 (.bool false) ?_
            try simp only [s1, s2, s3]
            refine tk 33 38 (.bool false) ?_
            try simp only [s1, s2, s3]
            refine tk 34 39 (.pointer (some ⟨x, 10, none⟩)) ?_
            try simp only [s1, s2, s3]
            refine tk 35 40 (.int .i64 o.policy) ?_ (hv := by (intro V hV; have hc := ka10 V hV.1; clear hV; go_simp; try rfl))
            try simp only [s1, s2, s3]
            refine wpAnyH_ready (rs := [36]) (by kernel_rfl) (by simp) ?_
            refine AllReadyH.cons rfl (fun K hK => ?_) ?_
            · rw [if_pos (by rfl)]
              go_simp
              go_at_call 57
              refine (in_any o.policy 255 true H6.out _).mono ?_
              rintro e v6 ⟨rfl, hv6⟩
              have hw6 := hv6.symm
              clear hv6
              subst hw6
              dsimp only
              refine hK.out _ _ (by assumption) (fun hHeld => ?_)
              clear hK K
              try simp only [Act.put, s1, s2, s3]
              refine tk 37 42 (.bool false) ?_
              try simp only [s1, s2, s3]
              refine tk 38 43 (.bool false) ?_
              try simp only [s1, s2, s3]
              refine tk 39 44 (.bool false) ?_
              try simp only [s1, s2, s3]
              refine tk 40 45 (.pointer (some ⟨x, 15, none⟩)) ?_
              try simp only [s1, s2, s3]
              refine tk 41 46 (.int .i64 o.bits) ?_ (hv := by (intro V hV; have hc := ka15 V hV.1; clear hV; go_simp; try rfl))
              try simp only [s1, s2, s3]
              refine wpAnyH_ready (rs := [42]) (by kernel_rfl) (by simp) ?_
              refine AllReadyH.cons rfl (fun K hK => ?_) ?_
              · rw [if_pos (by rfl)]
                go_simp
                go_at_call 57
                refine (in_any o.bits 255 true H7.out _).mono ?_
                rintro e v7 ⟨rfl, hv7⟩
                have hw7 := hv7.symm
                clear hv7
                subst hw7
                dsimp only
                refine hK.out _ _ (by assumption) (fun hHeld => ?_)
                clear hK K
                try simp only [Act.put, s1, s2, s3]
                refine tk 43 48 (.bool false) ?_
                try simp only [s1, s2, s3]
                refine tk 44 49 (.bool false) ?_
                try simp only [s1, s2, s3]
                refine tk 45 50 (.bool false) ?_
                try simp only [s1, s2, s3]
                refine tk 46 51 (.pointer (some ⟨x, 11, none⟩)) ?_
                try simp only [s1, s2, s3]
                refine tk 47 52 (.slice p.A o.fams.length p.c) ?_ (hv := by (intro V hV; have hc := ka11 V hV.1; clear hV; go_simp; try rfl))
                try simp only [s1, s2, s3]
                refine tk 48 53 (.int .i64 (o.fams.length : Nat)) ?_
                try simp only [s1, s2, s3]
                refine tk 49 54 (.bool false) ?_
                try simp only [s1, s2, s3]
                refine tk 50 55 (.bool false) ?_
                try simp only [s1, s2, s3]
                refine tk 51 56 (.bool false) ?_
                try simp only [s1, s2, s3]
                refine tk 52 57 (.pointer (some ⟨x, 6, none⟩)) ?_
                try simp only [s1, s2, s3]
                refine tk 53 58 (.slice l.A o.labels.length l.c) ?_ (hv := by (intro V hV; have hc := ka6 V hV.1; clear hV; go_simp; try rfl))
                try simp only [s1, s2, s3]
                refine tk 54 59 (.int .i64 (o.labels.length : Nat)) ?_
                try simp only [s1, s2, s3]
                refine tk 55 60 (.bool false) ?_
                try simp only [s1, s2, s3]
                refine tk 56 61 (.bool false) ?_
                try simp only [s1, s2, s3]
                refine wpAnyH_done (by kernel_rfl) ?_ _
                have HE := Lib.hid hHeld
                repeat clear hHeld
                clear h0 h1 h8 h9
                have BW := Lib.hid (B1.out.trans (belowLe B1.out.size HE.out.2))
                have RW := Lib.hid (R1.out.below HE.out.2)
                have kx11 := ka11 _ HE.out.1
                have kx6 := ka6 _ HE.out.1
                go_wp2
                go_loop [3] (fun j => ∃ k : Nat, k ≤ o.fams.length ∧ j = .int .i64 k ∧ Hid ((o.fams.take k).all (fun n => inR n 255) = true)) (fun j => o.fams.length - (intOf j).toNat)
                case atStart => exact ⟨0, Nat.zero_le _, rfl, Lib.hid (by simp)⟩
                case round =>
                  obtain ⟨k, hk, rfl, H⟩ := hrel
                  by_cases hkn : k < o.fams.length
                  · obtain ⟨u, hu⟩ : ∃ u, o.fams[k]? = some u := ⟨_, List.getElem?_eq_getElem hkn⟩
                    have h1 := flat_at cI 1 (fun _ => rfl) o.fams k u hu 0 (by omega)
                    obtain ⟨ad, hA, e1⟩ := RW.out.pr _ _ h1
                    simp only [Nat.mul_one, Nat.add_zero] at e1
                    rw [hA] at kx11
                    clear h1 hA
                    cases hin : inR u 255
                    · have hS : (o.fams.all fun n => inR n 255) = false := by rw [List.all_eq_false]; exact ⟨u, List.mem_of_getElem? hu, by rw [hin]; simp⟩
                      have HS := Lib.hid hS
                      have HC := Lib.hid (fun V => in_any u 255 false hin V)
                      clear hS hin hu
                      go_wp2_with (go_at_call 57; refine (HC.out _).mono ?_; rintro e w5 ⟨rfl, hw5⟩; have hw6 := hw5.symm; clear hw5; subst hw6)
                      go_ret
                      exact ⟨by rw [HP.out]; (try (rw [HS.out]; simp only [Bool.false_and])); rfl, BW.out⟩
                    · have hn : (o.fams.take (k + 1)).all (fun n => inR n 255) = true := by rw [List.take_add_one, hu, List.all_append, H.out]; simp [hin]
                      have HN := Lib.hid hn
                      have HC := Lib.hid (fun V => in_any u 255 true hin V)
                      clear hn hin hu
                      go_wp2_with (go_at_call 57; refine (HC.out _).mono ?_; rintro e w5 ⟨rfl, hw5⟩; have hw6 := hw5.symm; clear hw5; subst hw6)
                      go_round
                      case rel => exact ⟨k + 1, by omega, by go_num, HN⟩
                      case measure => simp [intOf]; omega
                  · obtain rfl : k = o.fams.length := by omega
                    have hFa := H.out
                    rw [List.take_length] at hFa
                    have HFa := Lib.hid hFa
                    clear hFa hkn
                    go_wp2
                    go_loop [4] (fun j => ∃ k : Nat, k ≤ o.labels.length ∧ j = .int .i64 k ∧ Hid ((o.labels.take k).all (fun p => decide (p.1.size ≤ 200 ∧ p.2.size ≤ 200)) = true)) (fun j => o.labels.length - (intOf j).toNat)
                    case atStart => exact ⟨0, Nat.zero_le _, rfl, Lib.hid (by simp)⟩
                    case round =>
                      obtain ⟨k, hk2, rfl, H⟩ := hrel
                      by_cases hkn : k < o.labels.length
                      · obtain ⟨u, hu⟩ : ∃ u, o.labels[k]? = some u := ⟨_, List.getElem?_eq_getElem hkn⟩
                        have h1 := flat_at cP 2 (fun _ => rfl) o.labels k u hu 0 (by omega)
                        have h2 := flat_at cP 2 (fun _ => rfl) o.labels k u hu 1 (by omega)
                        obtain ⟨ad, hA, e1⟩ := RW.out.lr _ _ h1
                        obtain ⟨bd, hB, e2⟩ := RW.out.lr _ _ h2
                        obtain rfl : ad = bd := by rw [hA] at hB; injection hB
                        rw [← addadd] at e1 e2
                        rw [hA] at kx6
                        have e0 : wS.cell? (ad.add (k * 2)) = some (.string u.1) := by rw [addr_add0] at e1; exact e1
                        have e3 : wS.cell? ⟨(ad.add (k * 2)).block, (ad.add (k * 2)).off + 1, none⟩ = some (.string u.2) := e2
                        clear e2
                        clear h1 h2 hA hB e1
                        by_cases hs1 : u.1.size ≤ 200
                        · by_cases hs2 : u.2.size ≤ 200
                          · have g1 : decide ((200 : Int) < u.1.size) = false := decide_eq_false (by omega)
                            have g2 : decide ((200 : Int) < u.2.size) = false := decide_eq_false (by omega)
                            have hn : (o.labels.take (k + 1)).all (fun p => decide (p.1.size ≤ 200 ∧ p.2.size ≤ 200)) = true := by rw [List.take_add_one, hu, List.all_append, H.out]; simp [hs1, hs2]
                            have HN := Lib.hid hn
                            clear hn hu
                            go_wp2
                            go_round
                            case rel => exact ⟨k + 1, by omega, by go_num, HN⟩
                            case measure => simp [intOf]; omega
                          · have g1 : decide ((200 : Int) < u.1.size) = false := decide_eq_false (by omega)
                            have g2 : decide ((200 : Int) < u.2.size) = true := decide_eq_true (by omega)
                            have hS : (o.labels.all fun p => decide (p.1.size ≤ 200 ∧ p.2.size ≤ 200)) = false := by rw [List.all_eq_false]; exact ⟨u, List.mem_of_getElem? hu, by simp [hs2]⟩
                            have HS := Lib.hid hS
                            clear hS hu
                            go_wp2
                            go_ret
                            exact ⟨by rw [HP.out]; (try (rw [HFa.out, HS.out]; simp only [Bool.false_and, Bool.true_and])); rfl, BW.out⟩
                        · have g1 : decide ((200 : Int) < u.1.size) = true := decide_eq_true (by omega)
                          have hS : (o.labels.all fun p => decide (p.1.size ≤ 200 ∧ p.2.size ≤ 200)) = false := by rw [List.all_eq_false]; exact ⟨u, List.mem_of_getElem? hu, by simp [hs1]⟩
                          have HS := Lib.hid hS
                          clear hS hu
                          go_wp2
                          go_ret
                          exact ⟨by rw [HP.out]; (try (rw [HFa.out, HS.out]; simp only [Bool.false_and, Bool.true_and])); rfl, BW.out⟩
                      · obtain rfl : k = o.labels.length := by omega
                        have hLa := H.out
                        rw [List.take_length] at hLa
                        have HLa := Lib.hid hLa
                        clear hLa hkn
                        have kx5 := ka5 _ HE.out.1
                        go_wp2_with (fail)
                        refine (rtextsI_any o.fins f.A f.c 4 4 rfl _ rfl (by omega) true T0.out _ (RW.out.fr)).mono ?_
                        rintro e u0 ⟨rfl, hbu0⟩
                        have BU0 := Lib.hid (show Below wS.heap.size wS u0 from hbu0)
                        have RW0 := Lib.hid (RW.out.below BU0.out)
                        have PU0 := Lib.hid ((BU0.out.block x (Array.getElem?_eq_some_iff.1 HE.out.1).1).trans HE.out.1)
                        clear hbu0
                        have ku0 := ka7 _ PU0.out
                        go_wp2_with (fail)
                        refine (rtextsI_any o.cidrs c.A c.c 8 8 rfl _ rfl (by omega) true T1.out _ (RW0.out.cr)).mono ?_
                        rintro e u1 ⟨rfl, hbu1⟩
                        have BU1 := Lib.hid (show Below wS.heap.size wS u1 from G.bthen BU0.out hbu1)
                        have RW1 := Lib.hid (RW.out.below BU1.out)
                        have PU1 := Lib.hid ((BU1.out.block x (Array.getElem?_eq_some_iff.1 HE.out.1).1).trans HE.out.1)
                        clear hbu1
                        have ku1 := ka12 _ PU1.out
                        go_wp2_with (fail)
                        refine (rtextsI_any o.ips i.A i.c 8 8 rfl _ rfl (by omega) true T2.out _ (RW1.out.ir)).mono ?_
                        rintro e u2 ⟨rfl, hbu2⟩
                        have BU2 := Lib.hid (show Below wS.heap.size wS u2 from G.bthen BU1.out hbu2)
                        have RW2 := Lib.hid (RW.out.below BU2.out)
                        have PU2 := Lib.hid ((BU2.out.block x (Array.getElem?_eq_some_iff.1 HE.out.1).1).trans HE.out.1)
                        clear hbu2
                        have n1 := ka1 _ PU2.out
                        have n8 := ka8 _ PU2.out
                        have n13 := ka13 _ PU2.out
                        have n14 := ka14 _ PU2.out
                        have n16 := ka16 _ PU2.out
                        have n17 := ka17 _ PU2.out
                        have n18 := ka18 _ PU2.out
                        obtain ⟨u3, hu3⟩ : ∃ u3, u3 = u2.alloc (.cells #[.string o.name, .string o.status, .string o.v4, .string o.v6, .string o.sel, .string o.about, .string o.reason] 9) := ⟨_, rfl⟩
                        have b3 : Below u2.heap.size u2 u3 := by rw [hu3]; exact bel_alloc _ _
                        have r7 : RowR u3 (some ⟨u2.heap.size, 0, none⟩) ([o.name, o.status, o.v4, o.v6, o.sel, o.about, o.reason].flatMap cS) := fun j u hj => by
                          refine ⟨_, rfl, ?_⟩
                          rw [G.add_plain, Nat.zero_add]
                          have key : u3.heap[u2.heap.size]? = some (.cells #[.string o.name, .string o.status, .string o.v4, .string o.v6, .string o.sel, .string o.about, .string o.reason] 9 (0, 0)) := by rw [hu3]; exact G.heap_new _ _
                          simp only [World.cell?, key]
                          simpa [cS] using hj
                        have R7 := Lib.hid r7
                        have B3 := Lib.hid (BW.out.trans (belowLe BW.out.size (G.bthen BU2.out b3)))
                        have HU3 := Lib.hid hu3
                        clear r7 b3 hu3
                        go_wp2_with (fail)
                        rw [← HU3.out]
                        refine (rtextsI_any [o.name, o.status, o.v4, o.v6, o.sel, o.about, o.reason] _ 7 7 7 rfl 7 rfl (by omega) false T3.out u3 R7.out).mono ?_
                        rintro e u4 ⟨rfl, hb4⟩
                        have B4 := Lib.hid (B3.out.trans (belowLe B3.out.size hb4))
                        clear hb4
                        go_wp2
                        go_ret
                        exact ⟨by rw [HP.out]; rfl, B4.out⟩
              exact AllReadyH.nil
            exact AllReadyH.nil
          exact AllReadyH.nil
        exact AllReadyH.nil
      exact AllReadyH.nil
    exact AllReadyH.nil
  exact AllReadyH.nil
set_option maxRecDepth 100000 in
set_option maxHeartbeats 8000000 in
theorem rshape_t4 (o : Ob) (f l c p i : Sl) (hs : o.fins.length ≤ 1000000 ∧ o.labels.length ≤ 1000000 ∧ o.cidrs.length ≤ 1000000 ∧ o.fams.length ≤ 1000000 ∧ o.ips.length ≤ 1000000) (h0 : decide (o.kind < 1) = false) (h1 : decide (4 < o.kind) = false) (h2 : only o = true) (h3 : inR o.uid 1099511627776 = true) (h4 : inR o.version 1099511627776 = true) (h5 : inR o.type 255 = true) (h6 : inR o.policy 255 = true) (h7 : inR o.bits 255 = true) (h8 : decide ((8 : Int) < (o.fams.length : Int)) = false) (h9 : decide ((16 : Int) < (o.labels.length : Int)) = false) (t0 : textsB o.fins 4 = true) (t1 : textsB o.cidrs 8 = true) (t2 : textsB o.ips 8 = true) (t3 : textsB [o.name, o.status, o.v4, o.v6, o.sel, o.about, o.reason] 7 = true) (w : World) (hr : RowsR w o f l c p i) :
    Calls Try.prog 47 #[.agg (oc o f l c p i)] w fun e w' => e = .returned (.bool (CodP.shape o)) ∧ Below w.heap.size w w' := by
  have hP := shape_parts o
  have hk0 : inR (o.kind - 1) 3 = true := decide_eq_true (by have := of_decide_eq_false h0; have := of_decide_eq_false h1; omega)
  have hf8 : decide (o.fams.length ≤ 8) = true := decide_eq_true (by have := of_decide_eq_false h8; omega)
  have hl16 : decide (o.labels.length ≤ 16) = true := decide_eq_true (by have := of_decide_eq_false h9; omega)
  rw [hk0, h2, h3, h4, h5, h6, h7, hf8, hl16, t0, t1, t2, t3] at hP
  simp only [Bool.true_and, Bool.and_true, Bool.false_and, Bool.and_false] at hP
  have HP := Lib.hid hP
  clear hP hk0 hf8 hl16
  have hfl : (o.fams.length : Int) ≤ 8 := by have := of_decide_eq_false h8; omega
  have hll : (o.labels.length : Int) ≤ 16 := by have := of_decide_eq_false h9; omega
  have T0 := Lib.hid t0
  clear t0
  have T1 := Lib.hid t1
  clear t1
  have T2 := Lib.hid t2
  clear t2
  have T3 := Lib.hid t3
  clear t3
  obtain ⟨w1, hw1, b1, p1⟩ := box_one w (oc o f l c p i) 32
  obtain ⟨x, hx⟩ : ∃ x, x = w.heap.size := ⟨_, rfl⟩
  have lw := Lib.hid (show x < w1.heap.size by rw [hx]; exact (Array.getElem?_eq_some_iff.1 p1).1)
  rw [← hx] at p1
  have ka0 : ∀ V : World, V.heap[x]? = some (.cells (oc o f l c p i) 32 (0, 0)) → V.cell? ⟨x, 0, none⟩ = some (.int .i64 o.kind) := fun V hV => by simp [World.cell?, hV, oc]
  have ka1 : ∀ V : World, V.heap[x]? = some (.cells (oc o f l c p i) 32 (0, 0)) → V.cell? ⟨x, 1, none⟩ = some (.string o.name) := fun V hV => by simp [World.cell?, hV, oc]
  have ka2 : ∀ V : World, V.heap[x]? = some (.cells (oc o f l c p i) 32 (0, 0)) → V.cell? ⟨x, 2, none⟩ = some (.int .i64 o.uid) := fun V hV => by simp [World.cell?, hV, oc]
  have ka3 : ∀ V : World, V.heap[x]? = some (.cells (oc o f l c p i) 32 (0, 0)) → V.cell? ⟨x, 3, none⟩ = some (.int .i64 o.version) := fun V hV => by simp [World.cell?, hV, oc]
  have ka4 : ∀ V : World, V.heap[x]? = some (.cells (oc o f l c p i) 32 (0, 0)) → V.cell? ⟨x, 4, none⟩ = some (.bool o.deleting) := fun V hV => by simp [World.cell?, hV, oc]
  have ka5 : ∀ V : World, V.heap[x]? = some (.cells (oc o f l c p i) 32 (0, 0)) → V.cell? ⟨x, 5, none⟩ = some (.slice f.A o.fins.length f.c) := fun V hV => by simp [World.cell?, hV, oc]
  have ka6 : ∀ V : World, V.heap[x]? = some (.cells (oc o f l c p i) 32 (0, 0)) → V.cell? ⟨x, 6, none⟩ = some (.slice l.A o.labels.length l.c) := fun V hV => by simp [World.cell?, hV, oc]
  have ka7 : ∀ V : World, V.heap[x]? = some (.cells (oc o f l c p i) 32 (0, 0)) → V.cell? ⟨x, 7, none⟩ = some (.slice c.A o.cidrs.length c.c) := fun V hV => by simp [World.cell?, hV, oc]
  have ka8 : ∀ V : World, V.heap[x]? = some (.cells (oc o f l c p i) 32 (0, 0)) → V.cell? ⟨x, 8, none⟩ = some (.string o.status) := fun V hV => by simp [World.cell?, hV, oc]
  have ka9 : ∀ V : World, V.heap[x]? = some (.cells (oc o f l c p i) 32 (0, 0)) → V.cell? ⟨x, 9, none⟩ = some (.int .i64 o.type) := fun V hV => by simp [World.cell?, hV, oc]
  have ka10 : ∀ V : World, V.heap[x]? = some (.cells (oc o f l c p i) 32 (0, 0)) → V.cell? ⟨x, 10, none⟩ = some (.int .i64 o.policy) := fun V hV => by simp [World.cell?, hV, oc]
  have ka11 : ∀ V : World, V.heap[x]? = some (.cells (oc o f l c p i) 32 (0, 0)) → V.cell? ⟨x, 11, none⟩ = some (.slice p.A o.fams.length p.c) := fun V hV => by simp [World.cell?, hV, oc]
  have ka12 : ∀ V : World, V.heap[x]? = some (.cells (oc o f l c p i) 32 (0, 0)) → V.cell? ⟨x, 12, none⟩ = some (.slice i.A o.ips.length i.c) := fun V hV => by simp [World.cell?, hV, oc]
  have ka13 : ∀ V : World, V.heap[x]? = some (.cells (oc o f l c p i) 32 (0, 0)) → V.cell? ⟨x, 13, none⟩ = some (.string o.v4) := fun V hV => by simp [World.cell?, hV, oc]
  have ka14 : ∀ V : World, V.heap[x]? = some (.cells (oc o f l c p i) 32 (0, 0)) → V.cell? ⟨x, 14, none⟩ = some (.string o.v6) := fun V hV => by simp [World.cell?, hV, oc]
  have ka15 : ∀ V : World, V.heap[x]? = some (.cells (oc o f l c p i) 32 (0, 0)) → V.cell? ⟨x, 15, none⟩ = some (.int .i64 o.bits) := fun V hV => by simp [World.cell?, hV, oc]
  have ka16 : ∀ V : World, V.heap[x]? = some (.cells (oc o f l c p i) 32 (0, 0)) → V.cell? ⟨x, 16, none⟩ = some (.string o.sel) := fun V hV => by simp [World.cell?, hV, oc]
  have ka17 : ∀ V : World, V.heap[x]? = some (.cells (oc o f l c p i) 32 (0, 0)) → V.cell? ⟨x, 17, none⟩ = some (.string o.about) := fun V hV => by simp [World.cell?, hV, oc]
  have ka18 : ∀ V : World, V.heap[x]? = some (.cells (oc o f l c p i) 32 (0, 0)) → V.cell? ⟨x, 18, none⟩ = some (.string o.reason) := fun V hV => by simp [World.cell?, hV, oc]
  have R1 := Lib.hid (hr.below b1)
  have HSZ := Lib.hid hs
  have HK := Lib.hid (show 1 ≤ o.kind ∧ o.kind ≤ 4 from ⟨by have := of_decide_eq_false h0; omega, by have := of_decide_eq_false h1; omega⟩)
  have H2 := Lib.hid h2
  clear h2
  have H3 := Lib.hid h3
  clear h3
  have H4 := Lib.hid h4
  clear h4
  have H5 := Lib.hid h5
  clear h5
  have H6 := Lib.hid h6
  clear h6
  have H7 := Lib.hid h7
  clear h7
  have HW := Lib.hid hw1
  have B1 := Lib.hid b1
  have P1 := Lib.hid p1
  clear b1 p1 hw1 hr hs
  go_enter Try.func47, Try.ntmps47
  go_upto_region 1 with (fail)
  rw [← HW.out, ← hx]
  clear hx
  refine wp_region_held_drew (S := fun V => V.heap[x]? = some (.cells (oc o f l c p i) 32 (0, 0)) ∧ Below w1.heap.size w1 V) (by kernel_rfl) ⟨P1.out, ⟨rfl, rfl, rfl, Nat.le_refl _, fun _ _ => rfl⟩⟩ (fun hS0 => ?_)
  refine tk 0 5 (.pointer (some ⟨x, 0, none⟩)) ?_
  try simp only [s1, s2, s3]
  refine tk 1 6 (.int .i64 o.kind) ?_ (hv := by (intro V hV; have hc := ka0 V hV.1; clear hV; go_simp; try rfl))
  try simp only [s1, s2, s3]
  refine tk 2 7 (.bool false) ?_
  try simp only [s1, s2, s3]
  refine tk 3 8 (.bool false) ?_
  try simp only [s1, s2, s3]
  refine tk 4 9 (.pointer (some ⟨x, 0, none⟩)) ?_
  try simp only [s1, s2, s3]
  refine tk 5 10 (.int .i64 o.kind) ?_ (hv := by (intro V hV; have hc := ka0 V hV.1; clear hV; go_simp; try rfl))
  try simp only [s1, s2, s3]
  refine tk 6 11 (.bool false) ?_
  try simp only [s1, s2, s3]
  refine tk 7 12 (.bool false) ?_
  try simp only [s1, s2, s3]
  refine tk 8 13 (.bool false) ?_
  try simp only [s1, s2, s3]
  refine tk 9 14 (.agg (oc o f l c p i)) ?_ (hv := by exact load_row_yields 32 (.tmp 1) rfl x rfl 32 (oc o f l c p i) (0, 0) _ (fun V hV => hV.1) Try.underlying32 rfl size32)
  try simp only [s1, s2, s3]
  refine tk 10 15 (.agg (oc o f l c p i)) ?_ (hv := by exact load_row_yields 32 (.tmp 1) rfl x rfl 32 (oc o f l c p i) (0, 0) _ (fun V hV => hV.1) Try.underlying32 rfl size32)
  try simp only [s1, s2, s3]
  refine wpAnyH_ready (rs := [11]) (by kernel_rfl) (by simp) ?_
  refine AllReadyH.cons rfl (fun K hK => ?_) ?_
  · rw [if_pos (by rfl)]
    go_simp
    go_at_call 81
    refine (only_any o f l c p i HK.out _ (R1.out.below (And.right ‹_ ∧ _›))).mono ?_
    rintro e wO ⟨f', l', c', p', i', rfl, hro, hbO⟩
    dsimp only
    refine hK.out _ _ (keepX lw.out (by assumption) hbO) (fun hHeld => ?_)
    clear hK K
    try simp only [Act.put, s1, s2, s3]
    refine wpAnyH_ready (rs := [12]) (by kernel_rfl) (by simp) ?_
    refine AllReadyH.cons rfl (fun K hK => ?_) ?_
    · rw [if_pos (by rfl)]
      go_simp
      go_at_call 18
      refine (same14_any o (onlyO o) f l c p i f' l' c' p' i' HSZ.out wO (R1.out.below hHeld.2) hro).mono ?_
      rw [only_same o HK.out, H2.out]
      rintro e wS ⟨rfl, hbS⟩
      dsimp only
      refine hK.out _ _ (keepX lw.out (by assumption) hbS) (fun hHeld => ?_)
      clear hK K
      try simp only [Act.put, s1, s2, s3]
      refine tk 13 18 (.bool false) ?_
      try simp only [s1, s2, s3]
      refine tk 14 19 (.bool false) ?_
      try simp only [s1, s2, s3]
      refine tk 15 20 (.bool false) ?_
      try simp only [s1, s2, s3]
      refine tk 16 21 (.pointer (some ⟨x, 2, none⟩)) ?_
      try simp only [s1, s2, s3]
      refine tk 17 22 (.int .i64 o.uid) ?_ (hv := by (intro V hV; have hc := ka2 V hV.1; clear hV; go_simp; try rfl))
      try simp only [s1, s2, s3]
      refine wpAnyH_ready (rs := [18]) (by kernel_rfl) (by simp) ?_
      refine AllReadyH.cons rfl (fun K hK => ?_) ?_
      · rw [if_pos (by rfl)]
        go_simp
        go_at_call 57
        refine (in_any o.uid 1099511627776 true H3.out _).mono ?_
        rintro e v3 ⟨rfl, hv3⟩
        have hw3 := hv3.symm
        clear hv3
        subst hw3
        dsimp only
        refine hK.out _ _ (by assumption) (fun hHeld => ?_)
        clear hK K
        try simp only [Act.put, s1, s2, s3]
        refine tk 19 24 (.bool false) ?_
        try simp only [s1, s2, s3]
        refine tk 20 25 (.bool false) ?_
        try simp only [s1, s2, s3]
        refine tk 21 26 (.bool false) ?_
        try simp only [s1, s2, s3]
        refine tk 22 27 (.pointer (some ⟨x, 3, none⟩)) ?_
        try simp only [s1, s2, s3]
        refine tk 23 28 (.int .i64 o.version) ?_ (hv := by (intro V hV; have hc := ka3 V hV.1; clear hV; go_simp; try rfl))
        try simp only [s1, s2, s3]
        refine wpAnyH_ready (rs := [24]) (by kernel_rfl) (by simp) ?_
        refine AllReadyH.cons rfl (fun K hK => ?_) ?_
        · rw [if_pos (by rfl)]
          go_simp
          go_at_call 57
          refine (in_any o.version 1099511627776 true H4.out _).mono ?_
          rintro e v4 ⟨rfl, hv4⟩
          have hw4 := hv4.symm
          clear hv4
          subst hw4
          dsimp only
          refine hK.out _ _ (by assumption) (fun hHeld => ?_)
          clear hK K
          try simp only [Act.put, s1, s2, s3]
          refine tk 25 30 (.bool false) ?_
          try simp only [s1, s2, s3]
          refine tk 26 31 (.bool false) ?_
          try simp only [s1, s2, s3]
          refine tk 27 32 (.bool false) ?_
          try simp only [s1, s2, s3]
          refine tk 28 33 (.pointer (some ⟨x, 9, none⟩)) ?_
          try simp only [s1, s2, s3]
          refine tk 29 34 (.int .i64 o.type) ?_ (hv := by (intro V hV; have hc := ka9 V hV.1; clear hV; go_simp; try rfl))
          try simp only [s1, s2, s3]
          refine wpAnyH_ready (rs := [30]) (by kernel_rfl) (by simp) ?_
          refine AllReadyH.cons rfl (fun K hK => ?_) ?_
          · rw [if_pos (by rfl)]
            go_simp
            go_at_call 57
            refine (in_any o.type 255 true H5.out _).mono ?_
            rintro e v5 ⟨rfl, hv5⟩
            have hw5 := hv5.symm
            clear hv5
            subst hw5
            dsimp only
            refine hK.out _ _ (by assumption) (fun hHeld => ?_)
            clear hK K
            try simp only [Act.put, s1, s2, s3]
            refine tk 31 36 (.bool false) ?_
            try simp only [s1, s2, s3]
            refine tk 32 37 (.bool false) ?_
            try simp only [s1, s2, s3]
            refine tk 33 38 (.bool false) ?_
            try simp only [s1, s2, s3]
            refine tk 34 39 (.pointer (some ⟨x, 10, none⟩)) ?_
            try simp only [s1, s2, s3]
            refine tk 35 40 (.int .i64 o.policy) ?_ (hv := by (intro V hV; have hc := ka10 V hV.1; clear hV; go_simp; try rfl))
            try simp only [s1, s2, s3]
            refine wpAnyH_ready (rs := [36]) (by kernel_rfl) (by simp) ?_
            refine AllReadyH.cons rfl (fun K hK => ?_) ?_
            · rw [if_pos (by rfl)]
              go_simp
              go_at_call 57
              refine (in_any o.policy 255 true H6.out _).mono ?_
              rintro e v6 ⟨rfl, hv6⟩
              have hw6 := hv6.symm
              clear hv6
              subst hw6
              dsimp only
              refine hK.out _ _ (by assumption) (fun hHeld => ?_)
              clear hK K
              try simp only [Act.put, s1, s2, s3]
              refine tk 37 42 (.bool false) ?_
              try simp only [s1, s2, s3]
              refine tk 38 43 (.bool false) ?_
              try simp only [s1, s2, s3]
              refine tk 39 44 (.bool false) ?_
              try simp only [s1, s2, s3]
              refine tk 40 45 (.pointer (some ⟨x, 15, none⟩)) ?_
              try simp only [s1, s2, s3]
              refine tk 41 46 (.int .i64 o.bits) ?_ (hv := by (intro V hV; have hc := ka15 V hV.1; clear hV; go_simp; try rfl))
              try simp only [s1, s2, s3]
              refine wpAnyH_ready (rs := [42]) (by kernel_rfl) (by simp) ?_
              refine AllReadyH.cons rfl (fun K hK => ?_) ?_
              · rw [if_pos (by rfl)]
                go_simp
                go_at_call 57
                refine (in_any o.bits 255 true H7.out _).mono ?_
                rintro e v7 ⟨rfl, hv7⟩
                have hw7 := hv7.symm
                clear hv7
                subst hw7
                dsimp only
                refine hK.out _ _ (by assumption) (fun hHeld => ?_)
                clear hK K
                try simp only [Act.put, s1, s2, s3]
                refine tk 43 48 (.bool false) ?_
                try simp only [s1, s2, s3]
                refine tk 44 49 (.bool false) ?_
                try simp only [s1, s2, s3]
                refine tk 45 50 (.bool false) ?_
                try simp only [s1, s2, s3]
                refine tk 46 51 (.pointer (some ⟨x, 11, none⟩)) ?_
                try simp only [s1, s2, s3]
                refine tk 47 52 (.slice p.A o.fams.length p.c) ?_ (hv := by (intro V hV; have hc := ka11 V hV.1; clear hV; go_simp; try rfl))
                try simp only [s1, s2, s3]
                refine tk 48 53 (.int .i64 (o.fams.length : Nat)) ?_
                try simp only [s1, s2, s3]
                refine tk 49 54 (.bool false) ?_
                try simp only [s1, s2, s3]
                refine tk 50 55 (.bool false) ?_
                try simp only [s1, s2, s3]
                refine tk 51 56 (.bool false) ?_
                try simp only [s1, s2, s3]
                refine tk 52 57 (.pointer (some ⟨x, 6, none⟩)) ?_
                try simp only [s1, s2, s3]
                refine tk 53 58 (.slice l.A o.labels.length l.c) ?_ (hv := by (intro V hV; have hc := ka6 V hV.1; clear hV; go_simp; try rfl))
                try simp only [s1, s2, s3]
                refine tk 54 59 (.int .i64 (o.labels.length : Nat)) ?_
                try simp only [s1, s2, s3]
                refine tk 55 60 (.bool false) ?_
                try simp only [s1, s2, s3]
                refine tk 56 61 (.bool false) ?_
                try simp only [s1, s2, s3]
                refine wpAnyH_done (by kernel_rfl) ?_ _
                have HE := Lib.hid hHeld
                repeat clear hHeld
                clear h0 h1 h8 h9
                have BW := Lib.hid (B1.out.trans (belowLe B1.out.size HE.out.2))
                have RW := Lib.hid (R1.out.below HE.out.2)
                have kx11 := ka11 _ HE.out.1
                have kx6 := ka6 _ HE.out.1
                go_wp2
                go_loop [3] (fun j => ∃ k : Nat, k ≤ o.fams.length ∧ j = .int .i64 k ∧ Hid ((o.fams.take k).all (fun n => inR n 255) = true)) (fun j => o.fams.length - (intOf j).toNat)
                case atStart => exact ⟨0, Nat.zero_le _, rfl, Lib.hid (by simp)⟩
                case round =>
                  obtain ⟨k, hk, rfl, H⟩ := hrel
                  by_cases hkn : k < o.fams.length
                  · obtain ⟨u, hu⟩ : ∃ u, o.fams[k]? = some u := ⟨_, List.getElem?_eq_getElem hkn⟩
                    have h1 := flat_at cI 1 (fun _ => rfl) o.fams k u hu 0 (by omega)
                    obtain ⟨ad, hA, e1⟩ := RW.out.pr _ _ h1
                    simp only [Nat.mul_one, Nat.add_zero] at e1
                    rw [hA] at kx11
                    clear h1 hA
                    cases hin : inR u 255
                    · have hS : (o.fams.all fun n => inR n 255) = false := by rw [List.all_eq_false]; exact ⟨u, List.mem_of_getElem? hu, by rw [hin]; simp⟩
                      have HS := Lib.hid hS
                      have HC := Lib.hid (fun V => in_any u 255 false hin V)
                      clear hS hin hu
                      go_wp2_with (go_at_call 57; refine (HC.out _).mono ?_; rintro e w5 ⟨rfl, hw5⟩; have hw6 := hw5.symm; clear hw5; subst hw6)
                      go_ret
                      exact ⟨by rw [HP.out, HS.out]; simp only [Bool.false_and]; rfl, BW.out⟩
                    · have hn : (o.fams.take (k + 1)).all (fun n => inR n 255) = true := by rw [List.take_add_one, hu, List.all_append, H.out]; simp [hin]
                      have HN := Lib.hid hn
                      have HC := Lib.hid (fun V => in_any u 255 true hin V)
                      clear hn hin hu
                      go_wp2_with (go_at_call 57; refine (HC.out _).mono ?_; rintro e w5 ⟨rfl, hw5⟩; have hw6 := hw5.symm; clear hw5; subst hw6)
                      go_round
                      case rel => exact ⟨k + 1, by omega, by go_num, HN⟩
                      case measure => simp [intOf]; omega
                  · obtain rfl : k = o.fams.length := by omega
                    have hFa := H.out
                    rw [List.take_length] at hFa
                    have HFa := Lib.hid hFa
                    clear hFa hkn
                    go_wp2
                    go_loop [4] (fun j => ∃ k : Nat, k ≤ o.labels.length ∧ j = .int .i64 k ∧ Hid ((o.labels.take k).all (fun p => decide (p.1.size ≤ 200 ∧ p.2.size ≤ 200)) = true)) (fun j => o.labels.length - (intOf j).toNat)
                    case atStart => exact ⟨0, Nat.zero_le _, rfl, Lib.hid (by simp)⟩
                    case round =>
                      obtain ⟨k, hk2, rfl, H⟩ := hrel
                      by_cases hkn : k < o.labels.length
                      · obtain ⟨u, hu⟩ : ∃ u, o.labels[k]? = some u := ⟨_, List.getElem?_eq_getElem hkn⟩
                        have h1 := flat_at cP 2 (fun _ => rfl) o.labels k u hu 0 (by omega)
                        have h2 := flat_at cP 2 (fun _ => rfl) o.labels k u hu 1 (by omega)
                        obtain ⟨ad, hA, e1⟩ := RW.out.lr _ _ h1
                        obtain ⟨bd, hB, e2⟩ := RW.out.lr _ _ h2
                        obtain rfl : ad = bd := by rw [hA] at hB; injection hB
                        rw [← addadd] at e1 e2
                        rw [hA] at kx6
                        have e0 : wS.cell? (ad.add (k * 2)) = some (.string u.1) := by rw [addr_add0] at e1; exact e1
                        have e3 : wS.cell? ⟨(ad.add (k * 2)).block, (ad.add (k * 2)).off + 1, none⟩ = some (.string u.2) := e2
                        clear e2
                        clear h1 h2 hA hB e1
                        by_cases hs1 : u.1.size ≤ 200
                        · by_cases hs2 : u.2.size ≤ 200
                          · have g1 : decide ((200 : Int) < u.1.size) = false := decide_eq_false (by omega)
                            have g2 : decide ((200 : Int) < u.2.size) = false := decide_eq_false (by omega)
                            have hn : (o.labels.take (k + 1)).all (fun p => decide (p.1.size ≤ 200 ∧ p.2.size ≤ 200)) = true := by rw [List.take_add_one, hu, List.all_append, H.out]; simp [hs1, hs2]
                            have HN := Lib.hid hn
                            clear hn hu
                            go_wp2
                            go_round
                            case rel => exact ⟨k + 1, by omega, by go_num, HN⟩
                            case measure => simp [intOf]; omega
                          · have g1 : decide ((200 : Int) < u.1.size) = false := decide_eq_false (by omega)
                            have g2 : decide ((200 : Int) < u.2.size) = true := decide_eq_true (by omega)
                            have hS : (o.labels.all fun p => decide (p.1.size ≤ 200 ∧ p.2.size ≤ 200)) = false := by rw [List.all_eq_false]; exact ⟨u, List.mem_of_getElem? hu, by simp [hs2]⟩
                            have HS := Lib.hid hS
                            clear hS hu
                            go_wp2
                            go_ret
                            exact ⟨by rw [HP.out]; (try (rw [HFa.out, HS.out]; simp only [Bool.false_and, Bool.true_and])); rfl, BW.out⟩
                        · have g1 : decide ((200 : Int) < u.1.size) = true := decide_eq_true (by omega)
                          have hS : (o.labels.all fun p => decide (p.1.size ≤ 200 ∧ p.2.size ≤ 200)) = false := by rw [List.all_eq_false]; exact ⟨u, List.mem_of_getElem? hu, by simp [hs1]⟩
                          have HS := Lib.hid hS
                          clear hS hu
                          go_wp2
                          go_ret
                          exact ⟨by rw [HP.out]; (try (rw [HFa.out, HS.out]; simp only [Bool.false_and, Bool.true_and])); rfl, BW.out⟩
                      · obtain rfl : k = o.labels.length := by omega
                        have hLa := H.out
                        rw [List.take_length] at hLa
                        have HLa := Lib.hid hLa
                        clear hLa hkn
                        have kx5 := ka5 _ HE.out.1
                        go_wp2_with (fail)
                        refine (rtextsI_any o.fins f.A f.c 4 4 rfl _ rfl (by omega) true T0.out _ (RW.out.fr)).mono ?_
                        rintro e u0 ⟨rfl, hbu0⟩
                        have BU0 := Lib.hid (show Below wS.heap.size wS u0 from hbu0)
                        have RW0 := Lib.hid (RW.out.below BU0.out)
                        have PU0 := Lib.hid ((BU0.out.block x (Array.getElem?_eq_some_iff.1 HE.out.1).1).trans HE.out.1)
                        clear hbu0
                        have ku0 := ka7 _ PU0.out
                        go_wp2_with (fail)
                        refine (rtextsI_any o.cidrs c.A c.c 8 8 rfl _ rfl (by omega) true T1.out _ (RW0.out.cr)).mono ?_
                        rintro e u1 ⟨rfl, hbu1⟩
                        have BU1 := Lib.hid (show Below wS.heap.size wS u1 from G.bthen BU0.out hbu1)
                        have RW1 := Lib.hid (RW.out.below BU1.out)
                        have PU1 := Lib.hid ((BU1.out.block x (Array.getElem?_eq_some_iff.1 HE.out.1).1).trans HE.out.1)
                        clear hbu1
                        have ku1 := ka12 _ PU1.out
                        go_wp2_with (fail)
                        refine (rtextsI_any o.ips i.A i.c 8 8 rfl _ rfl (by omega) true T2.out _ (RW1.out.ir)).mono ?_
                        rintro e u2 ⟨rfl, hbu2⟩
                        have BU2 := Lib.hid (show Below wS.heap.size wS u2 from G.bthen BU1.out hbu2)
                        have RW2 := Lib.hid (RW.out.below BU2.out)
                        have PU2 := Lib.hid ((BU2.out.block x (Array.getElem?_eq_some_iff.1 HE.out.1).1).trans HE.out.1)
                        clear hbu2
                        have n1 := ka1 _ PU2.out
                        have n8 := ka8 _ PU2.out
                        have n13 := ka13 _ PU2.out
                        have n14 := ka14 _ PU2.out
                        have n16 := ka16 _ PU2.out
                        have n17 := ka17 _ PU2.out
                        have n18 := ka18 _ PU2.out
                        obtain ⟨u3, hu3⟩ : ∃ u3, u3 = u2.alloc (.cells #[.string o.name, .string o.status, .string o.v4, .string o.v6, .string o.sel, .string o.about, .string o.reason] 9) := ⟨_, rfl⟩
                        have b3 : Below u2.heap.size u2 u3 := by rw [hu3]; exact bel_alloc _ _
                        have r7 : RowR u3 (some ⟨u2.heap.size, 0, none⟩) ([o.name, o.status, o.v4, o.v6, o.sel, o.about, o.reason].flatMap cS) := fun j u hj => by
                          refine ⟨_, rfl, ?_⟩
                          rw [G.add_plain, Nat.zero_add]
                          have key : u3.heap[u2.heap.size]? = some (.cells #[.string o.name, .string o.status, .string o.v4, .string o.v6, .string o.sel, .string o.about, .string o.reason] 9 (0, 0)) := by rw [hu3]; exact G.heap_new _ _
                          simp only [World.cell?, key]
                          simpa [cS] using hj
                        have R7 := Lib.hid r7
                        have B3 := Lib.hid (BW.out.trans (belowLe BW.out.size (G.bthen BU2.out b3)))
                        have HU3 := Lib.hid hu3
                        clear r7 b3 hu3
                        go_wp2_with (fail)
                        rw [← HU3.out]
                        refine (rtextsI_any [o.name, o.status, o.v4, o.v6, o.sel, o.about, o.reason] _ 7 7 7 rfl 7 rfl (by omega) true T3.out u3 R7.out).mono ?_
                        rintro e u4 ⟨rfl, hb4⟩
                        have B4 := Lib.hid (B3.out.trans (belowLe B3.out.size hb4))
                        clear hb4
                        go_wp2
                        go_ret
                        exact ⟨by rw [HP.out]; rw [HFa.out, HLa.out]; rfl, B4.out⟩
              exact AllReadyH.nil
            exact AllReadyH.nil
          exact AllReadyH.nil
        exact AllReadyH.nil
      exact AllReadyH.nil
    exact AllReadyH.nil
  exact AllReadyH.nil
theorem rshape_any (o : Ob) (f l c p i : Sl) (hs : o.fins.length ≤ 1000000 ∧ o.labels.length ≤ 1000000 ∧ o.cidrs.length ≤ 1000000 ∧ o.fams.length ≤ 1000000 ∧ o.ips.length ≤ 1000000) (w : World) (hr : RowsR w o f l c p i) :
    Calls Try.prog 47 #[.agg (oc o f l c p i)] w fun e w' => e = .returned (.bool (CodP.shape o)) ∧ Below w.heap.size w w' := by
  cases h0 : decide (o.kind < 1)
  rotate_left
  · exact rshape_0 o f l c p i hs h0 w hr
  cases h1 : decide (4 < o.kind)
  rotate_left
  · exact rshape_1 o f l c p i hs h0 h1 w hr
  cases h2 : only o
  · exact rshape_2 o f l c p i hs h0 h1 h2 w hr
  cases h3 : inR o.uid 1099511627776
  · exact rshape_3 o f l c p i hs h0 h1 h2 h3 w hr
  cases h4 : inR o.version 1099511627776
  · exact rshape_4 o f l c p i hs h0 h1 h2 h3 h4 w hr
  cases h5 : inR o.type 255
  · exact rshape_5 o f l c p i hs h0 h1 h2 h3 h4 h5 w hr
  cases h6 : inR o.policy 255
  · exact rshape_6 o f l c p i hs h0 h1 h2 h3 h4 h5 h6 w hr
  cases h7 : inR o.bits 255
  · exact rshape_7 o f l c p i hs h0 h1 h2 h3 h4 h5 h6 h7 w hr
  cases h8 : decide ((8 : Int) < (o.fams.length : Int))
  rotate_left
  · exact rshape_8 o f l c p i hs h0 h1 h2 h3 h4 h5 h6 h7 h8 w hr
  cases h9 : decide ((16 : Int) < (o.labels.length : Int))
  rotate_left
  · exact rshape_9 o f l c p i hs h0 h1 h2 h3 h4 h5 h6 h7 h8 h9 w hr
  cases t0 : textsB o.fins 4
  · exact rshape_t0 o f l c p i hs h0 h1 h2 h3 h4 h5 h6 h7 h8 h9 t0 w hr
  cases t1 : textsB o.cidrs 8
  · exact rshape_t1 o f l c p i hs h0 h1 h2 h3 h4 h5 h6 h7 h8 h9 t0 t1 w hr
  cases t2 : textsB o.ips 8
  · exact rshape_t2 o f l c p i hs h0 h1 h2 h3 h4 h5 h6 h7 h8 h9 t0 t1 t2 w hr
  cases t3 : textsB [o.name, o.status, o.v4, o.v6, o.sel, o.about, o.reason] 7
  · exact rshape_t3 o f l c p i hs h0 h1 h2 h3 h4 h5 h6 h7 h8 h9 t0 t1 t2 t3 w hr
  exact rshape_t4 o f l c p i hs h0 h1 h2 h3 h4 h5 h6 h7 h8 h9 t0 t1 t2 t3 w hr
end Go.Proofs.Ytolndeolehkjoaa
