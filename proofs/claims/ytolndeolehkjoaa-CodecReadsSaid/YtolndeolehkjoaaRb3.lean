/- The reference's Bytes, of one that has a shape. -/
import Derived.Test.YtolndeolehkjoaaRb2
namespace Go.Proofs.Ytolndeolehkjoaa
set_option linter.unusedVariables false
set_option linter.unusedSimpArgs false
open Go.RowKit CodP
theorem addz (b : Addr) : b.add 0 = b := by unfold Addr.add; simp
theorem ret_bytes {o : Ob} {b : ByteArray} (h : BL b = obC.enc o) : Ending.returned (.string b) = .returned (.string (bytesS o)) := by rw [bytesS, ← h, ofBL_BL]
theorem conv3 (a b c : Int) (V : World) : (convert 67 9 (.slice (some ⟨V.heap.size, 0, none⟩) 3 3)).run Try.prog (V.alloc (.cells #[.int .u8 a, .int .u8 b, .int .u8 c] 5)) = .ok (.string (bB a ++ bB b ++ bB c)) (V.alloc (.cells #[.int .u8 a, .int .u8 b, .int .u8 c] 5)) := by
  have h := G.heap_new V (.cells #[.int .u8 a, .int .u8 b, .int .u8 c] 5)
  have := run_convert_bytes_arg (P := Try.prog) (w := V.alloc (.cells #[.int .u8 a, .int .u8 b, .int .u8 c] 5)) 67 5 Try.underlying67 Try.underlying5 V.heap.size 0 3 3 [a, b, c] rfl (fun i hi => by
    rcases (by omega : i = 0 ∨ i = 1 ∨ i = 2) with rfl | rfl | rfl <;> (simp only [World.cell?, h]; rfl)) 9 Try.underlying9
  rw [this]
  congr 2
set_option maxRecDepth 100000 in
set_option maxHeartbeats 16000000 in
theorem rbytes_1 (o : Ob) (f l c p i : Sl) (hf : Fits o) (hk : o.kind = 1) (w : World) (hr : RowsR w o f l c p i) :
    Calls Try.prog 48 #[.agg (oc o f l c p i)] w fun e w' => e = .returned (.string (bytesS o)) ∧ Below w.heap.size w w' := by
  have kk1 : (o.kind == 1) = true := by rw [hk]; rfl
  have kk2 : (o.kind == 2) = false := by rw [hk]; rfl
  have kk3 : (o.kind == 3) = false := by rw [hk]; rfl
  have kk4 : (o.kind == 4) = false := by rw [hk]; rfl
  have HK := Lib.hid hk
  clear hk
  obtain ⟨w1, hw1, b1, p1⟩ := box_one w (oc o f l c p i) 32
  obtain ⟨x, hx⟩ : ∃ x, x = w.heap.size := ⟨_, rfl⟩
  have lw := (Array.getElem?_eq_some_iff.1 p1).1
  rw [← hx] at p1 lw
  have ka0 : ∀ V : World, V.heap[x]? = some (.cells (oc o f l c p i) 32 (0, 0)) → V.cell? ⟨x, 0, none⟩ = some (.int .i64 o.kind) := fun V hV => by simp [World.cell?, hV, oc]
  have ka1 : ∀ V : World, V.heap[x]? = some (.cells (oc o f l c p i) 32 (0, 0)) → V.cell? ⟨x, 1, none⟩ = some (.string o.name) := fun V hV => by simp [World.cell?, hV, oc]
  have ka2 : ∀ V : World, V.heap[x]? = some (.cells (oc o f l c p i) 32 (0, 0)) → V.cell? ⟨x, 2, none⟩ = some (.int .i64 o.uid) := fun V hV => by simp [World.cell?, hV, oc]
  have ka3 : ∀ V : World, V.heap[x]? = some (.cells (oc o f l c p i) 32 (0, 0)) → V.cell? ⟨x, 3, none⟩ = some (.int .i64 o.version) := fun V hV => by simp [World.cell?, hV, oc]
  have ka4 : ∀ V : World, V.heap[x]? = some (.cells (oc o f l c p i) 32 (0, 0)) → V.cell? ⟨x, 4, none⟩ = some (.bool o.deleting) := fun V hV => by simp [World.cell?, hV, oc]
  have ka5 : ∀ V : World, V.heap[x]? = some (.cells (oc o f l c p i) 32 (0, 0)) → V.cell? ⟨x, 5, none⟩ = some (.slice f.A o.fins.length f.c) := fun V hV => by simp [World.cell?, hV, oc]
  have ka6 : ∀ V : World, V.heap[x]? = some (.cells (oc o f l c p i) 32 (0, 0)) → V.cell? ⟨x, 6, none⟩ = some (.slice l.A o.labels.length l.c) := fun V hV => by simp [World.cell?, hV, oc]
  have ka7 : ∀ V : World, V.heap[x]? = some (.cells (oc o f l c p i) 32 (0, 0)) → V.cell? ⟨x, 7, none⟩ = some (.slice c.A o.cidrs.length c.c) := fun V hV => by simp [World.cell?, hV, oc]
  have ka8 : ∀ V : World, V.heap[x]? = some (.cells (oc o f l c p i) 32 (0, 0)) → V.cell? ⟨x, 8, none⟩ = some (.string o.status) := fun V hV => by simp [World.cell?, hV, oc]
  have ka9 : ∀ V : World, V.heap[x]? = some (.cells (oc o f l c p i) 32 (0, 0)) → V.cell? ⟨x, 9, none⟩ = some (.int .i64 o.type) := fun V hV => by simp [World.cell?, hV, oc]
  have ka10 : ∀ V : World, V.heap[x]? = some (.cells (oc o f l c p i) 32 (0, 0)) → V.cell? ⟨x, 10, none⟩ = some (.int .i64 o.policy) := fun V hV => by simp [World.cell?, hV, oc]
  have ka11 : ∀ V : World, V.heap[x]? = some (.cells (oc o f l c p i) 32 (0, 0)) → V.cell? ⟨x, 11, none⟩ = some (.slice p.A o.fams.length p.c) := fun V hV => by simp [World.cell?, hV, oc]
  have ka12 : ∀ V : World, V.heap[x]? = some (.cells (oc o f l c p i) 32 (0, 0)) → V.cell? ⟨x, 12, none⟩ = some (.slice i.A o.ips.length i.c) := fun V hV => by simp [World.cell?, hV, oc]
  have ka13 : ∀ V : World, V.heap[x]? = some (.cells (oc o f l c p i) 32 (0, 0)) → V.cell? ⟨x, 13, none⟩ = some (.string o.v4) := fun V hV => by simp [World.cell?, hV, oc]
  have ka14 : ∀ V : World, V.heap[x]? = some (.cells (oc o f l c p i) 32 (0, 0)) → V.cell? ⟨x, 14, none⟩ = some (.string o.v6) := fun V hV => by simp [World.cell?, hV, oc]
  have ka15 : ∀ V : World, V.heap[x]? = some (.cells (oc o f l c p i) 32 (0, 0)) → V.cell? ⟨x, 15, none⟩ = some (.int .i64 o.bits) := fun V hV => by simp [World.cell?, hV, oc]
  have ka16 : ∀ V : World, V.heap[x]? = some (.cells (oc o f l c p i) 32 (0, 0)) → V.cell? ⟨x, 16, none⟩ = some (.string o.sel) := fun V hV => by simp [World.cell?, hV, oc]
  have ka17 : ∀ V : World, V.heap[x]? = some (.cells (oc o f l c p i) 32 (0, 0)) → V.cell? ⟨x, 17, none⟩ = some (.string o.about) := fun V hV => by simp [World.cell?, hV, oc]
  have ka18 : ∀ V : World, V.heap[x]? = some (.cells (oc o f l c p i) 32 (0, 0)) → V.cell? ⟨x, 18, none⟩ = some (.string o.reason) := fun V hV => by simp [World.cell?, hV, oc]
  have sb1 : SB x (oc o f l c p i) w1 [] w1 := ⟨p1, Below.refl _ _, by simp, lw⟩
  have R1 := Lib.hid (hr.below b1)
  have HF := Lib.hid hf
  have SB1 := Lib.hid sb1
  have HW := Lib.hid hw1
  have B1 := Lib.hid b1
  have k1 := hf.kind.1
  have k2 := hf.kind.2
  have wk := u8w (n := o.kind) (by omega) (by omega)
  have wl := u8w (n := (o.labels.length : Int)) (by omega) (by have := hf.labels.1; omega)
  have z0 : (bB o.kind).size = 1 := bB_size _
  have z1 : (bT o.name).size ≤ 201 := by rw [bT_size]; have := hf.name; omega
  have z2 : (num8 o.uid.toNat).size = 8 := num8_size _
  have z3 : (num8 o.version.toNat).size = 8 := num8_size _
  have y1 : (rb1 o).size ≤ 300 := rb1_size o hf.name
  have y2 : (rb2 o).size ≤ 301 := rb2_size o hf.name
  have y3 : (rb3 o).size ≤ 8600 := rb3_size o hf.name hf.fins.1 hf.fins.2
  have y4 : (bTs o.fins).size ≤ 8100 := bTs_size _ hf.fins.1 hf.fins.2
  have y5 : (bB (o.labels.length : Int)).size = 1 := bB_size _
  have s5 : (bB o.kind ++ bT o.name).size ≤ 202 := by rw [ByteArray.size_append]; omega
  have s6 : (bB o.kind ++ bT o.name ++ num8 o.uid.toNat).size ≤ 210 := by rw [ByteArray.size_append, ByteArray.size_append]; omega
  have s7 : (rb2 o ++ bTs o.fins).size ≤ 8500 := by rw [ByteArray.size_append]; omega
  clear sb1 hr hf hw1 b1 p1 lw
  go_enter Try.func48, Try.ntmps48
  go_upto_region 1 with (fail)
  rw [← HW.out, ← hx]
  clear hx
  go_cut [3] from 6 to 22 (fun v w' => v = .string (rb1 o) ∧ Hid (SB x (oc o f l c p i) w1 [] w'))
  case first =>
    refine wp_region_held_drew (S := SB x (oc o f l c p i) w1 []) (by kernel_rfl) SB1.out.drew (fun hS0 => ?_)
    refine tk 0 6 (.pointer (some ⟨x, 0, none⟩)) ?_
    try simp only [s1, s2, s3]
    refine tk 1 7 (.int .i64 o.kind) ?_ (hv := by (intro V hV; have hc := ka0 V hV.is; clear hV; go_simp; try rfl))
    try simp only [s1, s2, s3]
    refine tk 2 8 (.int .u8 (o.kind)) ?_
    try simp only [s1, s2, s3]
    refine tk 5 11 (.pointer (some ⟨x, 1, none⟩)) ?_
    try simp only [s1, s2, s3]
    refine tk 6 12 (.string o.name) ?_ (hv := by (intro V hV; have hc := ka1 V hV.is; clear hV; go_simp; try rfl))
    try simp only [s1, s2, s3]
    refine tk 9 15 (.pointer (some ⟨x, 2, none⟩)) ?_
    try simp only [s1, s2, s3]
    refine tk 10 16 (.int .i64 o.uid) ?_ (hv := by (intro V hV; have hc := ka2 V hV.is; clear hV; go_simp; try rfl))
    try simp only [s1, s2, s3]
    refine tk 13 19 (.pointer (some ⟨x, 3, none⟩)) ?_
    try simp only [s1, s2, s3]
    refine tk 14 20 (.int .i64 o.version) ?_ (hv := by (intro V hV; have hc := ka3 V hV.is; clear hV; go_simp; try rfl))
    try simp only [s1, s2, s3]
    refine wpAnyH_ready (rs := [3, 7]) (by kernel_rfl) (by simp) ?_
    refine AllReadyH.cons rfl (fun K hK => ?_) ?_
    · rw [if_pos (by rfl)]
      refine wp_build1 9 8 (o.kind) rfl rfl rfl ?_
      intro b1 v1 hc1 hb1
      refine hK.out _ _ (SB.next (by assumption) hb1) (fun hHeld => ?_)
      clear hK K
      have hHeld := SB.add hHeld hc1
      refine wpAnyH_str (S' := SB x (oc o f l c p i) w1 [(⟨b1, 0, none⟩, .int .u8 (o.kind))]) (fun V h => h.weak) _ _ _ _ ?_
      try simp only [Act.put, s1, s2, s3]
      refine tk 4 10 (.string (bB (o.kind))) ?_ (hv := by (intro V hV; have hc := conv1 (o.kind) V b1 (hV.l (⟨b1, 0, none⟩, .int .u8 (o.kind)) (by simp)); clear hV; go_simp; try rfl))
      try simp only [s1, s2, s3]
      refine wpAnyH_ready (rs := [7]) (by kernel_rfl) (by simp) ?_
      refine AllReadyH.cons rfl (fun K hK => ?_) ?_
      · rw [if_pos (by rfl)]
        go_simp
        go_at_call 59
        refine (rtext_any o.name HF.out.name _).mono ?_
        rintro e v2 ⟨rfl, hb2⟩
        dsimp only
        refine hK.out _ _ (SB.next (by assumption) hb2) (fun hHeld => ?_)
        clear hK K
        try simp only [Act.put, s1, s2, s3]
        refine tk 8 14 (.string (bB o.kind ++ bT o.name)) ?_ (hv := by (intro V hV; clear hV; go_simp; (try first | rfl | omega)))
        try simp only [s1, s2, s3]
        refine wpAnyH_ready (rs := [11]) (by kernel_rfl) (by simp) ?_
        refine AllReadyH.cons rfl (fun K hK => ?_) ?_
        · rw [if_pos (by rfl)]
          go_simp
          go_at_call 14
          refine (rnumI_any o.uid HF.out.uid.1 HF.out.uid.2 _).mono ?_
          rintro e v3 ⟨rfl, hb3⟩
          dsimp only
          refine hK.out _ _ (SB.next (by assumption) hb3) (fun hHeld => ?_)
          clear hK K
          try simp only [Act.put, s1, s2, s3]
          refine tk 12 18 (.string (bB o.kind ++ bT o.name ++ num8 o.uid.toNat)) ?_ (hv := by (intro V hV; clear hV; go_simp; (try first | rfl | omega)))
          try simp only [s1, s2, s3]
          refine wpAnyH_ready (rs := [15]) (by kernel_rfl) (by simp) ?_
          refine AllReadyH.cons rfl (fun K hK => ?_) ?_
          · rw [if_pos (by rfl)]
            go_simp
            go_at_call 14
            refine (rnumI_any o.version HF.out.version.1 HF.out.version.2 _).mono ?_
            rintro e v4 ⟨rfl, hb4⟩
            dsimp only
            refine hK.out _ _ (SB.next (by assumption) hb4) (fun hHeld => ?_)
            clear hK K
            try simp only [Act.put, s1, s2, s3]
            refine tk 16 22 (.string (bB o.kind ++ bT o.name ++ num8 o.uid.toNat ++ num8 o.version.toNat)) ?_ (hv := by (intro V hV; clear hV; go_simp; (try first | rfl | omega)))
            try simp only [s1, s2, s3]
            refine tk 17 3 (.string (bB o.kind ++ bT o.name ++ num8 o.uid.toNat ++ num8 o.version.toNat)) ?_
            try simp only [s1, s2, s3]
            refine wpAnyH_done (by kernel_rfl) ?_ _
            have HE := Lib.hid hHeld
            repeat clear hHeld
            go_wp2
            go_meet
            case rel => exact ⟨rfl, Lib.hid HE.out.nil⟩
          exact AllReadyH.nil
        exact AllReadyH.nil
      exact AllReadyH.nil
    refine AllReadyH.cons rfl (fun K hK => ?_) ?_
    · rw [if_pos (by rfl)]
      go_simp
      go_at_call 59
      refine (rtext_any o.name HF.out.name _).mono ?_
      rintro e v5 ⟨rfl, hb5⟩
      dsimp only
      refine hK.out _ _ (SB.next (by assumption) hb5) (fun hHeld => ?_)
      clear hK K
      try simp only [Act.put, s1, s2, s3]
      refine wpAnyH_ready (rs := [3, 11]) (by kernel_rfl) (by simp) ?_
      refine AllReadyH.cons rfl (fun K hK => ?_) ?_
      · rw [if_pos (by rfl)]
        refine wp_build1 9 8 (o.kind) rfl rfl rfl ?_
        intro b6 v6 hc6 hb6
        refine hK.out _ _ (SB.next (by assumption) hb6) (fun hHeld => ?_)
        clear hK K
        have hHeld := SB.add hHeld hc6
        refine wpAnyH_str (S' := SB x (oc o f l c p i) w1 [(⟨b6, 0, none⟩, .int .u8 (o.kind))]) (fun V h => h.weak) _ _ _ _ ?_
        try simp only [Act.put, s1, s2, s3]
        refine tk 4 10 (.string (bB (o.kind))) ?_ (hv := by (intro V hV; have hc := conv1 (o.kind) V b6 (hV.l (⟨b6, 0, none⟩, .int .u8 (o.kind)) (by simp)); clear hV; go_simp; try rfl))
        try simp only [s1, s2, s3]
        refine tk 8 14 (.string (bB o.kind ++ bT o.name)) ?_ (hv := by (intro V hV; clear hV; go_simp; (try first | rfl | omega)))
        try simp only [s1, s2, s3]
        refine wpAnyH_ready (rs := [11]) (by kernel_rfl) (by simp) ?_
        refine AllReadyH.cons rfl (fun K hK => ?_) ?_
        · rw [if_pos (by rfl)]
          go_simp
          go_at_call 14
          refine (rnumI_any o.uid HF.out.uid.1 HF.out.uid.2 _).mono ?_
          rintro e v7 ⟨rfl, hb7⟩
          dsimp only
          refine hK.out _ _ (SB.next (by assumption) hb7) (fun hHeld => ?_)
          clear hK K
          try simp only [Act.put, s1, s2, s3]
          refine tk 12 18 (.string (bB o.kind ++ bT o.name ++ num8 o.uid.toNat)) ?_ (hv := by (intro V hV; clear hV; go_simp; (try first | rfl | omega)))
          try simp only [s1, s2, s3]
          refine wpAnyH_ready (rs := [15]) (by kernel_rfl) (by simp) ?_
          refine AllReadyH.cons rfl (fun K hK => ?_) ?_
          · rw [if_pos (by rfl)]
            go_simp
            go_at_call 14
            refine (rnumI_any o.version HF.out.version.1 HF.out.version.2 _).mono ?_
            rintro e v8 ⟨rfl, hb8⟩
            dsimp only
            refine hK.out _ _ (SB.next (by assumption) hb8) (fun hHeld => ?_)
            clear hK K
            try simp only [Act.put, s1, s2, s3]
            refine tk 16 22 (.string (bB o.kind ++ bT o.name ++ num8 o.uid.toNat ++ num8 o.version.toNat)) ?_ (hv := by (intro V hV; clear hV; go_simp; (try first | rfl | omega)))
            try simp only [s1, s2, s3]
            refine tk 17 3 (.string (bB o.kind ++ bT o.name ++ num8 o.uid.toNat ++ num8 o.version.toNat)) ?_
            try simp only [s1, s2, s3]
            refine wpAnyH_done (by kernel_rfl) ?_ _
            have HE := Lib.hid hHeld
            repeat clear hHeld
            go_wp2
            go_meet
            case rel => exact ⟨rfl, Lib.hid HE.out.nil⟩
          exact AllReadyH.nil
        exact AllReadyH.nil
      refine AllReadyH.cons rfl (fun K hK => ?_) ?_
      · rw [if_pos (by rfl)]
        go_simp
        go_at_call 14
        refine (rnumI_any o.uid HF.out.uid.1 HF.out.uid.2 _).mono ?_
        rintro e v9 ⟨rfl, hb9⟩
        dsimp only
        refine hK.out _ _ (SB.next (by assumption) hb9) (fun hHeld => ?_)
        clear hK K
        try simp only [Act.put, s1, s2, s3]
        refine wpAnyH_ready (rs := [3, 15]) (by kernel_rfl) (by simp) ?_
        refine AllReadyH.cons rfl (fun K hK => ?_) ?_
        · rw [if_pos (by rfl)]
          refine wp_build1 9 8 (o.kind) rfl rfl rfl ?_
          intro b10 v10 hc10 hb10
          refine hK.out _ _ (SB.next (by assumption) hb10) (fun hHeld => ?_)
          clear hK K
          have hHeld := SB.add hHeld hc10
          refine wpAnyH_str (S' := SB x (oc o f l c p i) w1 [(⟨b10, 0, none⟩, .int .u8 (o.kind))]) (fun V h => h.weak) _ _ _ _ ?_
          try simp only [Act.put, s1, s2, s3]
          refine tk 4 10 (.string (bB (o.kind))) ?_ (hv := by (intro V hV; have hc := conv1 (o.kind) V b10 (hV.l (⟨b10, 0, none⟩, .int .u8 (o.kind)) (by simp)); clear hV; go_simp; try rfl))
          try simp only [s1, s2, s3]
          refine tk 8 14 (.string (bB o.kind ++ bT o.name)) ?_ (hv := by (intro V hV; clear hV; go_simp; (try first | rfl | omega)))
          try simp only [s1, s2, s3]
          refine tk 12 18 (.string (bB o.kind ++ bT o.name ++ num8 o.uid.toNat)) ?_ (hv := by (intro V hV; clear hV; go_simp; (try first | rfl | omega)))
          try simp only [s1, s2, s3]
          refine wpAnyH_ready (rs := [15]) (by kernel_rfl) (by simp) ?_
          refine AllReadyH.cons rfl (fun K hK => ?_) ?_
          · rw [if_pos (by rfl)]
            go_simp
            go_at_call 14
            refine (rnumI_any o.version HF.out.version.1 HF.out.version.2 _).mono ?_
            rintro e v11 ⟨rfl, hb11⟩
            dsimp only
            refine hK.out _ _ (SB.next (by assumption) hb11) (fun hHeld => ?_)
            clear hK K
            try simp only [Act.put, s1, s2, s3]
            refine tk 16 22 (.string (bB o.kind ++ bT o.name ++ num8 o.uid.toNat ++ num8 o.version.toNat)) ?_ (hv := by (intro V hV; clear hV; go_simp; (try first | rfl | omega)))
            try simp only [s1, s2, s3]
            refine tk 17 3 (.string (bB o.kind ++ bT o.name ++ num8 o.uid.toNat ++ num8 o.version.toNat)) ?_
            try simp only [s1, s2, s3]
            refine wpAnyH_done (by kernel_rfl) ?_ _
            have HE := Lib.hid hHeld
            repeat clear hHeld
            go_wp2
            go_meet
            case rel => exact ⟨rfl, Lib.hid HE.out.nil⟩
          exact AllReadyH.nil
        refine AllReadyH.cons rfl (fun K hK => ?_) ?_
        · rw [if_pos (by rfl)]
          go_simp
          go_at_call 14
          refine (rnumI_any o.version HF.out.version.1 HF.out.version.2 _).mono ?_
          rintro e v12 ⟨rfl, hb12⟩
          dsimp only
          refine hK.out _ _ (SB.next (by assumption) hb12) (fun hHeld => ?_)
          clear hK K
          try simp only [Act.put, s1, s2, s3]
          refine wpAnyH_ready (rs := [3]) (by kernel_rfl) (by simp) ?_
          refine AllReadyH.cons rfl (fun K hK => ?_) ?_
          · rw [if_pos (by rfl)]
            refine wp_build1 9 8 (o.kind) rfl rfl rfl ?_
            intro b13 v13 hc13 hb13
            refine hK.out _ _ (SB.next (by assumption) hb13) (fun hHeld => ?_)
            clear hK K
            have hHeld := SB.add hHeld hc13
            refine wpAnyH_str (S' := SB x (oc o f l c p i) w1 [(⟨b13, 0, none⟩, .int .u8 (o.kind))]) (fun V h => h.weak) _ _ _ _ ?_
            try simp only [Act.put, s1, s2, s3]
            refine tk 4 10 (.string (bB (o.kind))) ?_ (hv := by (intro V hV; have hc := conv1 (o.kind) V b13 (hV.l (⟨b13, 0, none⟩, .int .u8 (o.kind)) (by simp)); clear hV; go_simp; try rfl))
            try simp only [s1, s2, s3]
            refine tk 8 14 (.string (bB o.kind ++ bT o.name)) ?_ (hv := by (intro V hV; clear hV; go_simp; (try first | rfl | omega)))
            try simp only [s1, s2, s3]
            refine tk 12 18 (.string (bB o.kind ++ bT o.name ++ num8 o.uid.toNat)) ?_ (hv := by (intro V hV; clear hV; go_simp; (try first | rfl | omega)))
            try simp only [s1, s2, s3]
            refine tk 16 22 (.string (bB o.kind ++ bT o.name ++ num8 o.uid.toNat ++ num8 o.version.toNat)) ?_ (hv := by (intro V hV; clear hV; go_simp; (try first | rfl | omega)))
            try simp only [s1, s2, s3]
            refine tk 17 3 (.string (bB o.kind ++ bT o.name ++ num8 o.uid.toNat ++ num8 o.version.toNat)) ?_
            try simp only [s1, s2, s3]
            refine wpAnyH_done (by kernel_rfl) ?_ _
            have HE := Lib.hid hHeld
            repeat clear hHeld
            go_wp2
            go_meet
            case rel => exact ⟨rfl, Lib.hid HE.out.nil⟩
          exact AllReadyH.nil
        exact AllReadyH.nil
      exact AllReadyH.nil
    exact AllReadyH.nil
  obtain ⟨rfl, HB⟩ := hcut
  clear z0 z1 z2 z3 s5 s6 wk
  have kd := ka4 _ HB.out.is
  go_upto_if 24 with (fail)
  clear kd
  go_cut [3] from 23 to 28 (fun v w' => v = .string (rb2 o) ∧ w' = wc)
  case first =>
    cases hd : o.deleting
    · have e2 : rb2 o = rb1 o ++ (⟨#[0]⟩ : ByteArray) := by unfold rb2; rw [hd]; rfl
      have E2 := Lib.hid e2
      have q1 : (⟨#[0]⟩ : ByteArray).size = 1 := rfl
      clear e2
      go_wp2
      go_meet
      case rel => exact ⟨by rw [E2.out], rfl⟩
    · have e2 : rb2 o = rb1 o ++ (⟨#[1]⟩ : ByteArray) := by unfold rb2; rw [hd]; rfl
      have E2 := Lib.hid e2
      have q1 : (⟨#[1]⟩ : ByteArray).size = 1 := rfl
      clear e2
      go_wp2
      go_meet
      case rel => exact ⟨by rw [E2.out], rfl⟩
  obtain ⟨rfl, hwc⟩ := hcut
  subst hwc
  clear y1
  go_upto_region 5 with (fail)
  go_cut [3] from 29 to 40 (fun v w' => v = .string (rb3 o) ∧ Hid (SB x (oc o f l c p i) w1 [] w'))
  case first =>
    refine wp_region_held_drew (S := SB x (oc o f l c p i) w1 []) (by kernel_rfl) HB.out.drew (fun hS0 => ?_)
    refine tk 0 29 (.string (rb2 o)) ?_
    try simp only [s1, s2, s3]
    refine tk 1 30 (.pointer (some ⟨x, 5, none⟩)) ?_
    try simp only [s1, s2, s3]
    refine tk 2 31 (.slice f.A o.fins.length f.c) ?_ (hv := by (intro V hV; have hc := ka5 V hV.is; clear hV; go_simp; try rfl))
    try simp only [s1, s2, s3]
    refine tk 5 34 (.pointer (some ⟨x, 6, none⟩)) ?_
    try simp only [s1, s2, s3]
    refine tk 6 35 (.slice l.A o.labels.length l.c) ?_ (hv := by (intro V hV; have hc := ka6 V hV.is; clear hV; go_simp; try rfl))
    try simp only [s1, s2, s3]
    refine tk 7 36 (.int .i64 (o.labels.length : Nat)) ?_
    try simp only [s1, s2, s3]
    refine tk 8 37 (.int .u8 ((o.labels.length : Nat))) ?_
    try simp only [s1, s2, s3]
    refine wpAnyH_ready (rs := [3, 9]) (by kernel_rfl) (by simp) ?_
    refine AllReadyH.cons rfl (fun K hK => ?_) ?_
    · rw [if_pos (by rfl)]
      go_simp
      go_at_call 83
      refine (rtextsB_any o.fins f.A f.c (by have := HF.out.fins.1; omega) HF.out.fins.2 _ (R1.out.below (SB.b ‹_›)).fr).mono ?_
      rintro e v1 ⟨rfl, hb1⟩
      dsimp only
      refine hK.out _ _ (SB.next (by assumption) hb1) (fun hHeld => ?_)
      clear hK K
      try simp only [Act.put, s1, s2, s3]
      refine tk 4 33 (.string (rb2 o ++ bTs o.fins)) ?_ (hv := by (intro V hV; clear hV; go_simp; (try first | rfl | omega)))
      try simp only [s1, s2, s3]
      refine wpAnyH_ready (rs := [9]) (by kernel_rfl) (by simp) ?_
      refine AllReadyH.cons rfl (fun K hK => ?_) ?_
      · rw [if_pos (by rfl)]
        refine wp_build1 38 37 ((o.labels.length : Int)) rfl rfl rfl ?_
        intro b2 v2 hc2 hb2
        refine hK.out _ _ (SB.next (by assumption) hb2) (fun hHeld => ?_)
        clear hK K
        have hHeld := SB.add hHeld hc2
        refine wpAnyH_str (S' := SB x (oc o f l c p i) w1 [(⟨b2, 0, none⟩, .int .u8 ((o.labels.length : Int)))]) (fun V h => h.weak) _ _ _ _ ?_
        try simp only [Act.put, s1, s2, s3]
        refine tk 10 39 (.string (bB ((o.labels.length : Int)))) ?_ (hv := by (intro V hV; have hc := conv1 ((o.labels.length : Int)) V b2 (hV.l (⟨b2, 0, none⟩, .int .u8 ((o.labels.length : Int))) (by simp)); clear hV; go_simp; try rfl))
        try simp only [s1, s2, s3]
        refine tk 11 40 (.string (rb2 o ++ bTs o.fins ++ bB (o.labels.length : Int))) ?_ (hv := by (intro V hV; clear hV; go_simp; (try first | rfl | omega)))
        try simp only [s1, s2, s3]
        refine tk 12 3 (.string (rb2 o ++ bTs o.fins ++ bB (o.labels.length : Int))) ?_ (hv := by (intro V hV; clear hV; go_simp; (try first | rfl | omega)))
        try simp only [s1, s2, s3]
        refine wpAnyH_done (by kernel_rfl) ?_ _
        have HE := Lib.hid hHeld
        repeat clear hHeld
        go_wp2
        go_meet
        case rel => exact ⟨rfl, Lib.hid HE.out.nil⟩
      exact AllReadyH.nil
    refine AllReadyH.cons rfl (fun K hK => ?_) ?_
    · rw [if_pos (by rfl)]
      refine wp_build1 38 37 ((o.labels.length : Int)) rfl rfl rfl ?_
      intro b3 v3 hc3 hb3
      refine hK.out _ _ (SB.next (by assumption) hb3) (fun hHeld => ?_)
      clear hK K
      have hHeld := SB.add hHeld hc3
      refine wpAnyH_str (S' := SB x (oc o f l c p i) w1 [(⟨b3, 0, none⟩, .int .u8 ((o.labels.length : Int)))]) (fun V h => h.weak) _ _ _ _ ?_
      try simp only [Act.put, s1, s2, s3]
      refine tk 10 39 (.string (bB ((o.labels.length : Int)))) ?_ (hv := by (intro V hV; have hc := conv1 ((o.labels.length : Int)) V b3 (hV.l (⟨b3, 0, none⟩, .int .u8 ((o.labels.length : Int))) (by simp)); clear hV; go_simp; try rfl))
      try simp only [s1, s2, s3]
      refine wpAnyH_ready (rs := [3]) (by kernel_rfl) (by simp) ?_
      refine AllReadyH.cons rfl (fun K hK => ?_) ?_
      · rw [if_pos (by rfl)]
        go_simp
        go_at_call 83
        refine (rtextsB_any o.fins f.A f.c (by have := HF.out.fins.1; omega) HF.out.fins.2 _ (R1.out.below (SB.b ‹_›)).fr).mono ?_
        rintro e v4 ⟨rfl, hb4⟩
        dsimp only
        refine hK.out _ _ (SB.next (by assumption) hb4) (fun hHeld => ?_)
        clear hK K
        try simp only [Act.put, s1, s2, s3]
        refine tk 4 33 (.string (rb2 o ++ bTs o.fins)) ?_ (hv := by (intro V hV; clear hV; go_simp; (try first | rfl | omega)))
        try simp only [s1, s2, s3]
        refine tk 11 40 (.string (rb2 o ++ bTs o.fins ++ bB (o.labels.length : Int))) ?_ (hv := by (intro V hV; clear hV; go_simp; (try first | rfl | omega)))
        try simp only [s1, s2, s3]
        refine tk 12 3 (.string (rb2 o ++ bTs o.fins ++ bB (o.labels.length : Int))) ?_ (hv := by (intro V hV; clear hV; go_simp; (try first | rfl | omega)))
        try simp only [s1, s2, s3]
        refine wpAnyH_done (by kernel_rfl) ?_ _
        have HE := Lib.hid hHeld
        repeat clear hHeld
        go_wp2
        go_meet
        case rel => exact ⟨rfl, Lib.hid HE.out.nil⟩
      exact AllReadyH.nil
    exact AllReadyH.nil
  obtain ⟨rfl, HB5⟩ := hcut
  clear HB y2 y4 y5 s7 wl
  go_wp2
  go_loopw [3, 4] (fun s j wr => ∃ (k : Nat) (b : ByteArray), k ≤ o.labels.length ∧ j = .int .i64 k ∧ s = .string b ∧ b.size ≤ 8600 + 402 * k ∧ Hid (BL b = BL (rb3 o) ++ (o.labels.take k).flatMap eP ∧ SB x (oc o f l c p i) w1 [] wr)) (fun _ j _ => o.labels.length - (intOf j).toNat)
  case atStart => exact ⟨0, _, Nat.zero_le _, rfl, rfl, by omega, Lib.hid ⟨by simp, HB5.out⟩⟩
  case round =>
    obtain ⟨k, b, hk, rfl, rfl, hbz, H⟩ := hrel
    have l40 : (o.labels.length : Int) ≤ 40 := by have := HF.out.labels.1; omega
    have kx6 := ka6 _ H.out.2.is
    by_cases hkn : k < o.labels.length
    · obtain ⟨u, hu⟩ : ∃ u, o.labels[k]? = some u := ⟨_, List.getElem?_eq_getElem hkn⟩
      have hum := HF.out.labels.2 u (List.mem_of_getElem? hu)
      have h1 := flat_at cP 2 (fun _ => rfl) o.labels k u hu 0 (by omega)
      have h2 := flat_at cP 2 (fun _ => rfl) o.labels k u hu 1 (by omega)
      obtain ⟨ad, hA, c1⟩ := R1.out.lr _ _ h1
      obtain ⟨bd, hB, c2⟩ := R1.out.lr _ _ h2
      obtain rfl : ad = bd := by rw [hA] at hB; injection hB
      rw [← addadd] at c1 c2
      have c1' : w1.cell? (ad.add (k * 2)) = some (.string u.1) := by rw [addz] at c1; exact c1
      have c2' : w1.cell? ⟨(ad.add (k * 2)).block, (ad.add (k * 2)).off + 1, none⟩ = some (.string u.2) := c2
      have ke6 : ∀ V : World, V.heap[x]? = some (.cells (oc o f l c p i) 32 (0, 0)) → V.cell? ⟨x, 6, none⟩ = some (.slice (some ad) o.labels.length l.c) := fun V hV => by rw [← hA]; exact ka6 V hV
      have C1 := Lib.hid (fun (V : World) (h : Below w1.heap.size w1 V) => G.cell_below h c1')
      have C2 := Lib.hid (fun (V : World) (h : Below w1.heap.size w1 V) => G.cell_below h c2')
      have HU := Lib.hid hu
      have t1 : (bT u.1).size ≤ 201 := by rw [bT_size]; omega
      have t2 : (bT u.2).size ≤ 201 := by rw [bT_size]; omega
      have t3 : (b ++ bT u.1).size ≤ 8801 + 402 * k := by rw [ByteArray.size_append]; omega
      have hkl : (k : Int) < o.labels.length := by omega
      rw [hA] at kx6
      clear h1 h2 hA hB c1 c2 c1' c2' hu
      go_upto_region 9 with (fail)
      clear kx6
      refine wp_region_held_drew (S := SB x (oc o f l c p i) w1 []) (by kernel_rfl) H.out.2.drew (fun hS0 => ?_)
      refine tk 0 48 (.string b) ?_
      try simp only [s1, s2, s3]
      refine tk 1 49 (.pointer (some ⟨x, 6, none⟩)) ?_
      try simp only [s1, s2, s3]
      refine tk 2 50 (.slice (some ad) o.labels.length l.c) ?_ (hv := by (intro V hV; have hc := ke6 V hV.is; clear hV; go_simp; try rfl))
      try simp only [s1, s2, s3]
      refine tk 3 51 (.int .i64 (k : Nat)) ?_
      try simp only [s1, s2, s3]
      refine tk 4 52 (.pointer (some (ad.add (k * 2)))) ?_
      try simp only [s1, s2, s3]
      refine tk 5 53 (.pointer (some (ad.add (k * 2)))) ?_
      try simp only [s1, s2, s3]
      refine tk 6 54 (.string u.1) ?_ (hv := by (intro V hV; have hc := C1.out V hV.b; clear hV; go_simp; try rfl))
      try simp only [s1, s2, s3]
      refine tk 9 57 (.pointer (some ⟨x, 6, none⟩)) ?_
      try simp only [s1, s2, s3]
      refine tk 10 58 (.slice (some ad) o.labels.length l.c) ?_ (hv := by (intro V hV; have hc := ke6 V hV.is; clear hV; go_simp; try rfl))
      try simp only [s1, s2, s3]
      refine tk 11 59 (.int .i64 (k : Nat)) ?_
      try simp only [s1, s2, s3]
      refine tk 12 60 (.pointer (some (ad.add (k * 2)))) ?_
      try simp only [s1, s2, s3]
      refine tk 13 61 (.pointer (some ⟨(ad.add (k * 2)).block, (ad.add (k * 2)).off + 1, none⟩)) ?_
      try simp only [s1, s2, s3]
      refine tk 14 62 (.string u.2) ?_ (hv := by (intro V hV; have hc := C2.out V hV.b; clear hV; go_simp; try rfl))
      try simp only [s1, s2, s3]
      refine wpAnyH_ready (rs := [7]) (by kernel_rfl) (by simp) ?_
      refine AllReadyH.cons rfl (fun K hK => ?_) ?_
      · rw [if_pos (by rfl)]
        go_simp
        go_at_call 59
        refine (rtext_any u.1 hum.1 _).mono ?_
        rintro e v1 ⟨rfl, hb1⟩
        dsimp only
        refine hK.out _ _ (SB.next (by assumption) hb1) (fun hHeld => ?_)
        clear hK K
        try simp only [Act.put, s1, s2, s3]
        refine tk 8 56 (.string (b ++ bT u.1)) ?_ (hv := by (intro V hV; clear hV; go_simp; (try first | rfl | omega)))
        try simp only [s1, s2, s3]
        refine wpAnyH_ready (rs := [15]) (by kernel_rfl) (by simp) ?_
        refine AllReadyH.cons rfl (fun K hK => ?_) ?_
        · rw [if_pos (by rfl)]
          go_simp
          go_at_call 59
          refine (rtext_any u.2 hum.2 _).mono ?_
          rintro e v2 ⟨rfl, hb2⟩
          dsimp only
          refine hK.out _ _ (SB.next (by assumption) hb2) (fun hHeld => ?_)
          clear hK K
          try simp only [Act.put, s1, s2, s3]
          refine tk 16 64 (.string (b ++ bT u.1 ++ bT u.2)) ?_ (hv := by (intro V hV; clear hV; go_simp; (try first | rfl | omega)))
          try simp only [s1, s2, s3]
          refine tk 17 3 (.string (b ++ bT u.1 ++ bT u.2)) ?_ (hv := by (intro V hV; clear hV; go_simp; (try first | rfl | omega)))
          try simp only [s1, s2, s3]
          refine wpAnyH_done (by kernel_rfl) ?_ _
          have HE := Lib.hid hHeld
          repeat clear hHeld
          clear hS0
          go_wp2
          go_roundw
          case rel =>
            refine ⟨k + 1, _, by omega, by go_num, rfl, by rw [ByteArray.size_append]; omega, Lib.hid ⟨?_, HE.out⟩⟩
            rw [BL_append, BL_append, BL_bT, BL_bT, H.out.1, List.take_add_one, HU.out]
            simp [List.flatMap_append, eP]
          case measure => simp [intOf]; omega
        exact AllReadyH.nil
      exact AllReadyH.nil
    · obtain rfl : k = o.labels.length := by omega
      have hh := rb_head o b (by have := H.out.1; rwa [List.take_length] at this)
      have HH := Lib.hid hh
      have HB9 := Lib.hid H.out.2
      have hbz2 : b.size ≤ 30000 := by omega
      have kx0 := ka0 _ H.out.2.is
      clear hh hkn hbz H hk
      go_upto_region 12 with (fail)
      clear kx0 kx6
      have z1 : (bTs o.cidrs).size ≤ 8100 := bTs_size _ HF.out.cidrs.1 HF.out.cidrs.2
      have z2 : (bT o.status).size ≤ 201 := by rw [bT_size]; have := HF.out.status; omega
      have z3 : (b ++ bTs o.cidrs).size ≤ 38100 := by rw [ByteArray.size_append]; omega
      refine wp_region_held_drew (S := SB x (oc o f l c p i) w1 []) (by kernel_rfl) HB9.out.drew (fun hS0 => ?_)
      refine tk 0 69 (.string b) ?_
      try simp only [s1, s2, s3]
      refine tk 1 70 (.pointer (some ⟨x, 7, none⟩)) ?_
      try simp only [s1, s2, s3]
      refine tk 2 71 (.slice c.A o.cidrs.length c.c) ?_ (hv := by (intro V hV; have hc := ka7 V hV.is; clear hV; go_simp; try rfl))
      try simp only [s1, s2, s3]
      refine tk 5 74 (.pointer (some ⟨x, 8, none⟩)) ?_
      try simp only [s1, s2, s3]
      refine tk 6 75 (.string o.status) ?_ (hv := by (intro V hV; have hc := ka8 V hV.is; clear hV; go_simp; try rfl))
      try simp only [s1, s2, s3]
      refine wpAnyH_ready (rs := [3]) (by kernel_rfl) (by simp) ?_
      refine AllReadyH.cons rfl (fun K hK => ?_) ?_
      · rw [if_pos (by rfl)]
        go_simp
        go_at_call 83
        refine (rtextsB_any o.cidrs c.A c.c (by have := HF.out.cidrs.1; omega) HF.out.cidrs.2 _ (R1.out.below (SB.b ‹_›)).cr).mono ?_
        rintro e v1 ⟨rfl, hb1⟩
        dsimp only
        refine hK.out _ _ (SB.next (by assumption) hb1) (fun hHeld => ?_)
        clear hK K
        try simp only [Act.put, s1, s2, s3]
        refine tk 4 73 (.string (b ++ bTs o.cidrs)) ?_ (hv := by (intro V hV; clear hV; go_simp; (try first | rfl | omega)))
        try simp only [s1, s2, s3]
        refine wpAnyH_ready (rs := [7]) (by kernel_rfl) (by simp) ?_
        refine AllReadyH.cons rfl (fun K hK => ?_) ?_
        · rw [if_pos (by rfl)]
          go_simp
          go_at_call 59
          refine (rtext_any o.status HF.out.status _).mono ?_
          rintro e v2 ⟨rfl, hb2⟩
          dsimp only
          refine hK.out _ _ (SB.next (by assumption) hb2) (fun hHeld => ?_)
          clear hK K
          try simp only [Act.put, s1, s2, s3]
          refine tk 8 77 (.string (b ++ bTs o.cidrs ++ bT o.status)) ?_ (hv := by (intro V hV; clear hV; go_simp; (try first | rfl | omega)))
          try simp only [s1, s2, s3]
          refine tk 9 3 (.string (b ++ bTs o.cidrs ++ bT o.status)) ?_ (hv := by (intro V hV; clear hV; go_simp; (try first | rfl | omega)))
          try simp only [s1, s2, s3]
          refine wpAnyH_done (by kernel_rfl) ?_ _
          have HE := Lib.hid hHeld
          repeat clear hHeld
          clear hS0
          go_wp2
          go_ret
          refine ⟨ret_bytes ?_, B1.out.trans (belowLe B1.out.size HE.out.b)⟩
          rw [enc_ob o HF.out.kind]
          simp only [BL_append, BL_bT, bTs, BL_ofBL, HH.out]
          rw [show eTail o = (eB o.cidrs.length ++ o.cidrs.flatMap eT) ++ eT o.status from if_pos HK.out]
          simp only [List.append_assoc]
        exact AllReadyH.nil
      exact AllReadyH.nil
set_option maxRecDepth 100000 in
set_option maxHeartbeats 16000000 in
theorem rbytes_2 (o : Ob) (f l c p i : Sl) (hf : Fits o) (hk : o.kind = 2) (w : World) (hr : RowsR w o f l c p i) :
    Calls Try.prog 48 #[.agg (oc o f l c p i)] w fun e w' => e = .returned (.string (bytesS o)) ∧ Below w.heap.size w w' := by
  have kk1 : (o.kind == 1) = false := by rw [hk]; rfl
  have kk2 : (o.kind == 2) = true := by rw [hk]; rfl
  have kk3 : (o.kind == 3) = false := by rw [hk]; rfl
  have kk4 : (o.kind == 4) = false := by rw [hk]; rfl
  have HK := Lib.hid hk
  clear hk
  obtain ⟨w1, hw1, b1, p1⟩ := box_one w (oc o f l c p i) 32
  obtain ⟨x, hx⟩ : ∃ x, x = w.heap.size := ⟨_, rfl⟩
  have lw := (Array.getElem?_eq_some_iff.1 p1).1
  rw [← hx] at p1 lw
  have ka0 : ∀ V : World, V.heap[x]? = some (.cells (oc o f l c p i) 32 (0, 0)) → V.cell? ⟨x, 0, none⟩ = some (.int .i64 o.kind) := fun V hV => by simp [World.cell?, hV, oc]
  have ka1 : ∀ V : World, V.heap[x]? = some (.cells (oc o f l c p i) 32 (0, 0)) → V.cell? ⟨x, 1, none⟩ = some (.string o.name) := fun V hV => by simp [World.cell?, hV, oc]
  have ka2 : ∀ V : World, V.heap[x]? = some (.cells (oc o f l c p i) 32 (0, 0)) → V.cell? ⟨x, 2, none⟩ = some (.int .i64 o.uid) := fun V hV => by simp [World.cell?, hV, oc]
  have ka3 : ∀ V : World, V.heap[x]? = some (.cells (oc o f l c p i) 32 (0, 0)) → V.cell? ⟨x, 3, none⟩ = some (.int .i64 o.version) := fun V hV => by simp [World.cell?, hV, oc]
  have ka4 : ∀ V : World, V.heap[x]? = some (.cells (oc o f l c p i) 32 (0, 0)) → V.cell? ⟨x, 4, none⟩ = some (.bool o.deleting) := fun V hV => by simp [World.cell?, hV, oc]
  have ka5 : ∀ V : World, V.heap[x]? = some (.cells (oc o f l c p i) 32 (0, 0)) → V.cell? ⟨x, 5, none⟩ = some (.slice f.A o.fins.length f.c) := fun V hV => by simp [World.cell?, hV, oc]
  have ka6 : ∀ V : World, V.heap[x]? = some (.cells (oc o f l c p i) 32 (0, 0)) → V.cell? ⟨x, 6, none⟩ = some (.slice l.A o.labels.length l.c) := fun V hV => by simp [World.cell?, hV, oc]
  have ka7 : ∀ V : World, V.heap[x]? = some (.cells (oc o f l c p i) 32 (0, 0)) → V.cell? ⟨x, 7, none⟩ = some (.slice c.A o.cidrs.length c.c) := fun V hV => by simp [World.cell?, hV, oc]
  have ka8 : ∀ V : World, V.heap[x]? = some (.cells (oc o f l c p i) 32 (0, 0)) → V.cell? ⟨x, 8, none⟩ = some (.string o.status) := fun V hV => by simp [World.cell?, hV, oc]
  have ka9 : ∀ V : World, V.heap[x]? = some (.cells (oc o f l c p i) 32 (0, 0)) → V.cell? ⟨x, 9, none⟩ = some (.int .i64 o.type) := fun V hV => by simp [World.cell?, hV, oc]
  have ka10 : ∀ V : World, V.heap[x]? = some (.cells (oc o f l c p i) 32 (0, 0)) → V.cell? ⟨x, 10, none⟩ = some (.int .i64 o.policy) := fun V hV => by simp [World.cell?, hV, oc]
  have ka11 : ∀ V : World, V.heap[x]? = some (.cells (oc o f l c p i) 32 (0, 0)) → V.cell? ⟨x, 11, none⟩ = some (.slice p.A o.fams.length p.c) := fun V hV => by simp [World.cell?, hV, oc]
  have ka12 : ∀ V : World, V.heap[x]? = some (.cells (oc o f l c p i) 32 (0, 0)) → V.cell? ⟨x, 12, none⟩ = some (.slice i.A o.ips.length i.c) := fun V hV => by simp [World.cell?, hV, oc]
  have ka13 : ∀ V : World, V.heap[x]? = some (.cells (oc o f l c p i) 32 (0, 0)) → V.cell? ⟨x, 13, none⟩ = some (.string o.v4) := fun V hV => by simp [World.cell?, hV, oc]
  have ka14 : ∀ V : World, V.heap[x]? = some (.cells (oc o f l c p i) 32 (0, 0)) → V.cell? ⟨x, 14, none⟩ = some (.string o.v6) := fun V hV => by simp [World.cell?, hV, oc]
  have ka15 : ∀ V : World, V.heap[x]? = some (.cells (oc o f l c p i) 32 (0, 0)) → V.cell? ⟨x, 15, none⟩ = some (.int .i64 o.bits) := fun V hV => by simp [World.cell?, hV, oc]
  have ka16 : ∀ V : World, V.heap[x]? = some (.cells (oc o f l c p i) 32 (0, 0)) → V.cell? ⟨x, 16, none⟩ = some (.string o.sel) := fun V hV => by simp [World.cell?, hV, oc]
  have ka17 : ∀ V : World, V.heap[x]? = some (.cells (oc o f l c p i) 32 (0, 0)) → V.cell? ⟨x, 17, none⟩ = some (.string o.about) := fun V hV => by simp [World.cell?, hV, oc]
  have ka18 : ∀ V : World, V.heap[x]? = some (.cells (oc o f l c p i) 32 (0, 0)) → V.cell? ⟨x, 18, none⟩ = some (.string o.reason) := fun V hV => by simp [World.cell?, hV, oc]
  have sb1 : SB x (oc o f l c p i) w1 [] w1 := ⟨p1, Below.refl _ _, by simp, lw⟩
  have R1 := Lib.hid (hr.below b1)
  have HF := Lib.hid hf
  have SB1 := Lib.hid sb1
  have HW := Lib.hid hw1
  have B1 := Lib.hid b1
  have k1 := hf.kind.1
  have k2 := hf.kind.2
  have wk := u8w (n := o.kind) (by omega) (by omega)
  have wl := u8w (n := (o.labels.length : Int)) (by omega) (by have := hf.labels.1; omega)
  have z0 : (bB o.kind).size = 1 := bB_size _
  have z1 : (bT o.name).size ≤ 201 := by rw [bT_size]; have := hf.name; omega
  have z2 : (num8 o.uid.toNat).size = 8 := num8_size _
  have z3 : (num8 o.version.toNat).size = 8 := num8_size _
  have y1 : (rb1 o).size ≤ 300 := rb1_size o hf.name
  have y2 : (rb2 o).size ≤ 301 := rb2_size o hf.name
  have y3 : (rb3 o).size ≤ 8600 := rb3_size o hf.name hf.fins.1 hf.fins.2
  have y4 : (bTs o.fins).size ≤ 8100 := bTs_size _ hf.fins.1 hf.fins.2
  have y5 : (bB (o.labels.length : Int)).size = 1 := bB_size _
  have s5 : (bB o.kind ++ bT o.name).size ≤ 202 := by rw [ByteArray.size_append]; omega
  have s6 : (bB o.kind ++ bT o.name ++ num8 o.uid.toNat).size ≤ 210 := by rw [ByteArray.size_append, ByteArray.size_append]; omega
  have s7 : (rb2 o ++ bTs o.fins).size ≤ 8500 := by rw [ByteArray.size_append]; omega
  clear sb1 hr hf hw1 b1 p1 lw
  go_enter Try.func48, Try.ntmps48
  go_upto_region 1 with (fail)
  rw [← HW.out, ← hx]
  clear hx
  go_cut [3] from 6 to 22 (fun v w' => v = .string (rb1 o) ∧ Hid (SB x (oc o f l c p i) w1 [] w'))
  case first =>
    refine wp_region_held_drew (S := SB x (oc o f l c p i) w1 []) (by kernel_rfl) SB1.out.drew (fun hS0 => ?_)
    refine tk 0 6 (.pointer (some ⟨x, 0, none⟩)) ?_
    try simp only [s1, s2, s3]
    refine tk 1 7 (.int .i64 o.kind) ?_ (hv := by (intro V hV; have hc := ka0 V hV.is; clear hV; go_simp; try rfl))
    try simp only [s1, s2, s3]
    refine tk 2 8 (.int .u8 (o.kind)) ?_
    try simp only [s1, s2, s3]
    refine tk 5 11 (.pointer (some ⟨x, 1, none⟩)) ?_
    try simp only [s1, s2, s3]
    refine tk 6 12 (.string o.name) ?_ (hv := by (intro V hV; have hc := ka1 V hV.is; clear hV; go_simp; try rfl))
    try simp only [s1, s2, s3]
    refine tk 9 15 (.pointer (some ⟨x, 2, none⟩)) ?_
    try simp only [s1, s2, s3]
    refine tk 10 16 (.int .i64 o.uid) ?_ (hv := by (intro V hV; have hc := ka2 V hV.is; clear hV; go_simp; try rfl))
    try simp only [s1, s2, s3]
    refine tk 13 19 (.pointer (some ⟨x, 3, none⟩)) ?_
    try simp only [s1, s2, s3]
    refine tk 14 20 (.int .i64 o.version) ?_ (hv := by (intro V hV; have hc := ka3 V hV.is; clear hV; go_simp; try rfl))
    try simp only [s1, s2, s3]
    refine wpAnyH_ready (rs := [3, 7]) (by kernel_rfl) (by simp) ?_
    refine AllReadyH.cons rfl (fun K hK => ?_) ?_
    · rw [if_pos (by rfl)]
      refine wp_build1 9 8 (o.kind) rfl rfl rfl ?_
      intro b1 v1 hc1 hb1
      refine hK.out _ _ (SB.next (by assumption) hb1) (fun hHeld => ?_)
      clear hK K
      have hHeld := SB.add hHeld hc1
      refine wpAnyH_str (S' := SB x (oc o f l c p i) w1 [(⟨b1, 0, none⟩, .int .u8 (o.kind))]) (fun V h => h.weak) _ _ _ _ ?_
      try simp only [Act.put, s1, s2, s3]
      refine tk 4 10 (.string (bB (o.kind))) ?_ (hv := by (intro V hV; have hc := conv1 (o.kind) V b1 (hV.l (⟨b1, 0, none⟩, .int .u8 (o.kind)) (by simp)); clear hV; go_simp; try rfl))
      try simp only [s1, s2, s3]
      refine wpAnyH_ready (rs := [7]) (by kernel_rfl) (by simp) ?_
      refine AllReadyH.cons rfl (fun K hK => ?_) ?_
      · rw [if_pos (by rfl)]
        go_simp
        go_at_call 59
        refine (rtext_any o.name HF.out.name _).mono ?_
        rintro e v2 ⟨rfl, hb2⟩
        dsimp only
        refine hK.out _ _ (SB.next (by assumption) hb2) (fun hHeld => ?_)
        clear hK K
        try simp only [Act.put, s1, s2, s3]
        refine tk 8 14 (.string (bB o.kind ++ bT o.name)) ?_ (hv := by (intro V hV; clear hV; go_simp; (try first | rfl | omega)))
        try simp only [s1, s2, s3]
        refine wpAnyH_ready (rs := [11]) (by kernel_rfl) (by simp) ?_
        refine AllReadyH.cons rfl (fun K hK => ?_) ?_
        · rw [if_pos (by rfl)]
          go_simp
          go_at_call 14
          refine (rnumI_any o.uid HF.out.uid.1 HF.out.uid.2 _).mono ?_
          rintro e v3 ⟨rfl, hb3⟩
          dsimp only
          refine hK.out _ _ (SB.next (by assumption) hb3) (fun hHeld => ?_)
          clear hK K
          try simp only [Act.put, s1, s2, s3]
          refine tk 12 18 (.string (bB o.kind ++ bT o.name ++ num8 o.uid.toNat)) ?_ (hv := by (intro V hV; clear hV; go_simp; (try first | rfl | omega)))
          try simp only [s1, s2, s3]
          refine wpAnyH_ready (rs := [15]) (by kernel_rfl) (by simp) ?_
          refine AllReadyH.cons rfl (fun K hK => ?_) ?_
          · rw [if_pos (by rfl)]
            go_simp
            go_at_call 14
            refine (rnumI_any o.version HF.out.version.1 HF.out.version.2 _).mono ?_
            rintro e v4 ⟨rfl, hb4⟩
            dsimp only
            refine hK.out _ _ (SB.next (by assumption) hb4) (fun hHeld => ?_)
            clear hK K
            try simp only [Act.put, s1, s2, s3]
            refine tk 16 22 (.string (bB o.kind ++ bT o.name ++ num8 o.uid.toNat ++ num8 o.version.toNat)) ?_ (hv := by (intro V hV; clear hV; go_simp; (try first | rfl | omega)))
            try simp only [s1, s2, s3]
            refine tk 17 3 (.string (bB o.kind ++ bT o.name ++ num8 o.uid.toNat ++ num8 o.version.toNat)) ?_
            try simp only [s1, s2, s3]
            refine wpAnyH_done (by kernel_rfl) ?_ _
            have HE := Lib.hid hHeld
            repeat clear hHeld
            go_wp2
            go_meet
            case rel => exact ⟨rfl, Lib.hid HE.out.nil⟩
          exact AllReadyH.nil
        exact AllReadyH.nil
      exact AllReadyH.nil
    refine AllReadyH.cons rfl (fun K hK => ?_) ?_
    · rw [if_pos (by rfl)]
      go_simp
      go_at_call 59
      refine (rtext_any o.name HF.out.name _).mono ?_
      rintro e v5 ⟨rfl, hb5⟩
      dsimp only
      refine hK.out _ _ (SB.next (by assumption) hb5) (fun hHeld => ?_)
      clear hK K
      try simp only [Act.put, s1, s2, s3]
      refine wpAnyH_ready (rs := [3, 11]) (by kernel_rfl) (by simp) ?_
      refine AllReadyH.cons rfl (fun K hK => ?_) ?_
      · rw [if_pos (by rfl)]
        refine wp_build1 9 8 (o.kind) rfl rfl rfl ?_
        intro b6 v6 hc6 hb6
        refine hK.out _ _ (SB.next (by assumption) hb6) (fun hHeld => ?_)
        clear hK K
        have hHeld := SB.add hHeld hc6
        refine wpAnyH_str (S' := SB x (oc o f l c p i) w1 [(⟨b6, 0, none⟩, .int .u8 (o.kind))]) (fun V h => h.weak) _ _ _ _ ?_
        try simp only [Act.put, s1, s2, s3]
        refine tk 4 10 (.string (bB (o.kind))) ?_ (hv := by (intro V hV; have hc := conv1 (o.kind) V b6 (hV.l (⟨b6, 0, none⟩, .int .u8 (o.kind)) (by simp)); clear hV; go_simp; try rfl))
        try simp only [s1, s2, s3]
        refine tk 8 14 (.string (bB o.kind ++ bT o.name)) ?_ (hv := by (intro V hV; clear hV; go_simp; (try first | rfl | omega)))
        try simp only [s1, s2, s3]
        refine wpAnyH_ready (rs := [11]) (by kernel_rfl) (by simp) ?_
        refine AllReadyH.cons rfl (fun K hK => ?_) ?_
        · rw [if_pos (by rfl)]
          go_simp
          go_at_call 14
          refine (rnumI_any o.uid HF.out.uid.1 HF.out.uid.2 _).mono ?_
          rintro e v7 ⟨rfl, hb7⟩
          dsimp only
          refine hK.out _ _ (SB.next (by assumption) hb7) (fun hHeld => ?_)
          clear hK K
          try simp only [Act.put, s1, s2, s3]
          refine tk 12 18 (.string (bB o.kind ++ bT o.name ++ num8 o.uid.toNat)) ?_ (hv := by (intro V hV; clear hV; go_simp; (try first | rfl | omega)))
          try simp only [s1, s2, s3]
          refine wpAnyH_ready (rs := [15]) (by kernel_rfl) (by simp) ?_
          refine AllReadyH.cons rfl (fun K hK => ?_) ?_
          · rw [if_pos (by rfl)]
            go_simp
            go_at_call 14
            refine (rnumI_any o.version HF.out.version.1 HF.out.version.2 _).mono ?_
            rintro e v8 ⟨rfl, hb8⟩
            dsimp only
            refine hK.out _ _ (SB.next (by assumption) hb8) (fun hHeld => ?_)
            clear hK K
            try simp only [Act.put, s1, s2, s3]
            refine tk 16 22 (.string (bB o.kind ++ bT o.name ++ num8 o.uid.toNat ++ num8 o.version.toNat)) ?_ (hv := by (intro V hV; clear hV; go_simp; (try first | rfl | omega)))
            try simp only [s1, s2, s3]
            refine tk 17 3 (.string (bB o.kind ++ bT o.name ++ num8 o.uid.toNat ++ num8 o.version.toNat)) ?_
            try simp only [s1, s2, s3]
            refine wpAnyH_done (by kernel_rfl) ?_ _
            have HE := Lib.hid hHeld
            repeat clear hHeld
            go_wp2
            go_meet
            case rel => exact ⟨rfl, Lib.hid HE.out.nil⟩
          exact AllReadyH.nil
        exact AllReadyH.nil
      refine AllReadyH.cons rfl (fun K hK => ?_) ?_
      · rw [if_pos (by rfl)]
        go_simp
        go_at_call 14
        refine (rnumI_any o.uid HF.out.uid.1 HF.out.uid.2 _).mono ?_
        rintro e v9 ⟨rfl, hb9⟩
        dsimp only
        refine hK.out _ _ (SB.next (by assumption) hb9) (fun hHeld => ?_)
        clear hK K
        try simp only [Act.put, s1, s2, s3]
        refine wpAnyH_ready (rs := [3, 15]) (by kernel_rfl) (by simp) ?_
        refine AllReadyH.cons rfl (fun K hK => ?_) ?_
        · rw [if_pos (by rfl)]
          refine wp_build1 9 8 (o.kind) rfl rfl rfl ?_
          intro b10 v10 hc10 hb10
          refine hK.out _ _ (SB.next (by assumption) hb10) (fun hHeld => ?_)
          clear hK K
          have hHeld := SB.add hHeld hc10
          refine wpAnyH_str (S' := SB x (oc o f l c p i) w1 [(⟨b10, 0, none⟩, .int .u8 (o.kind))]) (fun V h => h.weak) _ _ _ _ ?_
          try simp only [Act.put, s1, s2, s3]
          refine tk 4 10 (.string (bB (o.kind))) ?_ (hv := by (intro V hV; have hc := conv1 (o.kind) V b10 (hV.l (⟨b10, 0, none⟩, .int .u8 (o.kind)) (by simp)); clear hV; go_simp; try rfl))
          try simp only [s1, s2, s3]
          refine tk 8 14 (.string (bB o.kind ++ bT o.name)) ?_ (hv := by (intro V hV; clear hV; go_simp; (try first | rfl | omega)))
          try simp only [s1, s2, s3]
          refine tk 12 18 (.string (bB o.kind ++ bT o.name ++ num8 o.uid.toNat)) ?_ (hv := by (intro V hV; clear hV; go_simp; (try first | rfl | omega)))
          try simp only [s1, s2, s3]
          refine wpAnyH_ready (rs := [15]) (by kernel_rfl) (by simp) ?_
          refine AllReadyH.cons rfl (fun K hK => ?_) ?_
          · rw [if_pos (by rfl)]
            go_simp
            go_at_call 14
            refine (rnumI_any o.version HF.out.version.1 HF.out.version.2 _).mono ?_
            rintro e v11 ⟨rfl, hb11⟩
            dsimp only
            refine hK.out _ _ (SB.next (by assumption) hb11) (fun hHeld => ?_)
            clear hK K
            try simp only [Act.put, s1, s2, s3]
            refine tk 16 22 (.string (bB o.kind ++ bT o.name ++ num8 o.uid.toNat ++ num8 o.version.toNat)) ?_ (hv := by (intro V hV; clear hV; go_simp; (try first | rfl | omega)))
            try simp only [s1, s2, s3]
            refine tk 17 3 (.string (bB o.kind ++ bT o.name ++ num8 o.uid.toNat ++ num8 o.version.toNat)) ?_
            try simp only [s1, s2, s3]
            refine wpAnyH_done (by kernel_rfl) ?_ _
            have HE := Lib.hid hHeld
            repeat clear hHeld
            go_wp2
            go_meet
            case rel => exact ⟨rfl, Lib.hid HE.out.nil⟩
          exact AllReadyH.nil
        refine AllReadyH.cons rfl (fun K hK => ?_) ?_
        · rw [if_pos (by rfl)]
          go_simp
          go_at_call 14
          refine (rnumI_any o.version HF.out.version.1 HF.out.version.2 _).mono ?_
          rintro e v12 ⟨rfl, hb12⟩
          dsimp only
          refine hK.out _ _ (SB.next (by assumption) hb12) (fun hHeld => ?_)
          clear hK K
          try simp only [Act.put, s1, s2, s3]
          refine wpAnyH_ready (rs := [3]) (by kernel_rfl) (by simp) ?_
          refine AllReadyH.cons rfl (fun K hK => ?_) ?_
          · rw [if_pos (by rfl)]
            refine wp_build1 9 8 (o.kind) rfl rfl rfl ?_
            intro b13 v13 hc13 hb13
            refine hK.out _ _ (SB.next (by assumption) hb13) (fun hHeld => ?_)
            clear hK K
            have hHeld := SB.add hHeld hc13
            refine wpAnyH_str (S' := SB x (oc o f l c p i) w1 [(⟨b13, 0, none⟩, .int .u8 (o.kind))]) (fun V h => h.weak) _ _ _ _ ?_
            try simp only [Act.put, s1, s2, s3]
            refine tk 4 10 (.string (bB (o.kind))) ?_ (hv := by (intro V hV; have hc := conv1 (o.kind) V b13 (hV.l (⟨b13, 0, none⟩, .int .u8 (o.kind)) (by simp)); clear hV; go_simp; try rfl))
            try simp only [s1, s2, s3]
            refine tk 8 14 (.string (bB o.kind ++ bT o.name)) ?_ (hv := by (intro V hV; clear hV; go_simp; (try first | rfl | omega)))
            try simp only [s1, s2, s3]
            refine tk 12 18 (.string (bB o.kind ++ bT o.name ++ num8 o.uid.toNat)) ?_ (hv := by (intro V hV; clear hV; go_simp; (try first | rfl | omega)))
            try simp only [s1, s2, s3]
            refine tk 16 22 (.string (bB o.kind ++ bT o.name ++ num8 o.uid.toNat ++ num8 o.version.toNat)) ?_ (hv := by (intro V hV; clear hV; go_simp; (try first | rfl | omega)))
            try simp only [s1, s2, s3]
            refine tk 17 3 (.string (bB o.kind ++ bT o.name ++ num8 o.uid.toNat ++ num8 o.version.toNat)) ?_
            try simp only [s1, s2, s3]
            refine wpAnyH_done (by kernel_rfl) ?_ _
            have HE := Lib.hid hHeld
            repeat clear hHeld
            go_wp2
            go_meet
            case rel => exact ⟨rfl, Lib.hid HE.out.nil⟩
          exact AllReadyH.nil
        exact AllReadyH.nil
      exact AllReadyH.nil
    exact AllReadyH.nil
  obtain ⟨rfl, HB⟩ := hcut
  clear z0 z1 z2 z3 s5 s6 wk
  have kd := ka4 _ HB.out.is
  go_upto_if 24 with (fail)
  clear kd
  go_cut [3] from 23 to 28 (fun v w' => v = .string (rb2 o) ∧ w' = wc)
  case first =>
    cases hd : o.deleting
    · have e2 : rb2 o = rb1 o ++ (⟨#[0]⟩ : ByteArray) := by unfold rb2; rw [hd]; rfl
      have E2 := Lib.hid e2
      have q1 : (⟨#[0]⟩ : ByteArray).size = 1 := rfl
      clear e2
      go_wp2
      go_meet
      case rel => exact ⟨by rw [E2.out], rfl⟩
    · have e2 : rb2 o = rb1 o ++ (⟨#[1]⟩ : ByteArray) := by unfold rb2; rw [hd]; rfl
      have E2 := Lib.hid e2
      have q1 : (⟨#[1]⟩ : ByteArray).size = 1 := rfl
      clear e2
      go_wp2
      go_meet
      case rel => exact ⟨by rw [E2.out], rfl⟩
  obtain ⟨rfl, hwc⟩ := hcut
  subst hwc
  clear y1
  go_upto_region 5 with (fail)
  go_cut [3] from 29 to 40 (fun v w' => v = .string (rb3 o) ∧ Hid (SB x (oc o f l c p i) w1 [] w'))
  case first =>
    refine wp_region_held_drew (S := SB x (oc o f l c p i) w1 []) (by kernel_rfl) HB.out.drew (fun hS0 => ?_)
    refine tk 0 29 (.string (rb2 o)) ?_
    try simp only [s1, s2, s3]
    refine tk 1 30 (.pointer (some ⟨x, 5, none⟩)) ?_
    try simp only [s1, s2, s3]
    refine tk 2 31 (.slice f.A o.fins.length f.c) ?_ (hv := by (intro V hV; have hc := ka5 V hV.is; clear hV; go_simp; try rfl))
    try simp only [s1, s2, s3]
    refine tk 5 34 (.pointer (some ⟨x, 6, none⟩)) ?_
    try simp only [s1, s2, s3]
    refine tk 6 35 (.slice l.A o.labels.length l.c) ?_ (hv := by (intro V hV; have hc := ka6 V hV.is; clear hV; go_simp; try rfl))
    try simp only [s1, s2, s3]
    refine tk 7 36 (.int .i64 (o.labels.length : Nat)) ?_
    try simp only [s1, s2, s3]
    refine tk 8 37 (.int .u8 ((o.labels.length : Nat))) ?_
    try simp only [s1, s2, s3]
    refine wpAnyH_ready (rs := [3, 9]) (by kernel_rfl) (by simp) ?_
    refine AllReadyH.cons rfl (fun K hK => ?_) ?_
    · rw [if_pos (by rfl)]
      go_simp
      go_at_call 83
      refine (rtextsB_any o.fins f.A f.c (by have := HF.out.fins.1; omega) HF.out.fins.2 _ (R1.out.below (SB.b ‹_›)).fr).mono ?_
      rintro e v1 ⟨rfl, hb1⟩
      dsimp only
      refine hK.out _ _ (SB.next (by assumption) hb1) (fun hHeld => ?_)
      clear hK K
      try simp only [Act.put, s1, s2, s3]
      refine tk 4 33 (.string (rb2 o ++ bTs o.fins)) ?_ (hv := by (intro V hV; clear hV; go_simp; (try first | rfl | omega)))
      try simp only [s1, s2, s3]
      refine wpAnyH_ready (rs := [9]) (by kernel_rfl) (by simp) ?_
      refine AllReadyH.cons rfl (fun K hK => ?_) ?_
      · rw [if_pos (by rfl)]
        refine wp_build1 38 37 ((o.labels.length : Int)) rfl rfl rfl ?_
        intro b2 v2 hc2 hb2
        refine hK.out _ _ (SB.next (by assumption) hb2) (fun hHeld => ?_)
        clear hK K
        have hHeld := SB.add hHeld hc2
        refine wpAnyH_str (S' := SB x (oc o f l c p i) w1 [(⟨b2, 0, none⟩, .int .u8 ((o.labels.length : Int)))]) (fun V h => h.weak) _ _ _ _ ?_
        try simp only [Act.put, s1, s2, s3]
        refine tk 10 39 (.string (bB ((o.labels.length : Int)))) ?_ (hv := by (intro V hV; have hc := conv1 ((o.labels.length : Int)) V b2 (hV.l (⟨b2, 0, none⟩, .int .u8 ((o.labels.length : Int))) (by simp)); clear hV; go_simp; try rfl))
        try simp only [s1, s2, s3]
        refine tk 11 40 (.string (rb2 o ++ bTs o.fins ++ bB (o.labels.length : Int))) ?_ (hv := by (intro V hV; clear hV; go_simp; (try first | rfl | omega)))
        try simp only [s1, s2, s3]
        refine tk 12 3 (.string (rb2 o ++ bTs o.fins ++ bB (o.labels.length : Int))) ?_ (hv := by (intro V hV; clear hV; go_simp; (try first | rfl | omega)))
        try simp only [s1, s2, s3]
        refine wpAnyH_done (by kernel_rfl) ?_ _
        have HE := Lib.hid hHeld
        repeat clear hHeld
        go_wp2
        go_meet
        case rel => exact ⟨rfl, Lib.hid HE.out.nil⟩
      exact AllReadyH.nil
    refine AllReadyH.cons rfl (fun K hK => ?_) ?_
    · rw [if_pos (by rfl)]
      refine wp_build1 38 37 ((o.labels.length : Int)) rfl rfl rfl ?_
      intro b3 v3 hc3 hb3
      refine hK.out _ _ (SB.next (by assumption) hb3) (fun hHeld => ?_)
      clear hK K
      have hHeld := SB.add hHeld hc3
      refine wpAnyH_str (S' := SB x (oc o f l c p i) w1 [(⟨b3, 0, none⟩, .int .u8 ((o.labels.length : Int)))]) (fun V h => h.weak) _ _ _ _ ?_
      try simp only [Act.put, s1, s2, s3]
      refine tk 10 39 (.string (bB ((o.labels.length : Int)))) ?_ (hv := by (intro V hV; have hc := conv1 ((o.labels.length : Int)) V b3 (hV.l (⟨b3, 0, none⟩, .int .u8 ((o.labels.length : Int))) (by simp)); clear hV; go_simp; try rfl))
      try simp only [s1, s2, s3]
      refine wpAnyH_ready (rs := [3]) (by kernel_rfl) (by simp) ?_
      refine AllReadyH.cons rfl (fun K hK => ?_) ?_
      · rw [if_pos (by rfl)]
        go_simp
        go_at_call 83
        refine (rtextsB_any o.fins f.A f.c (by have := HF.out.fins.1; omega) HF.out.fins.2 _ (R1.out.below (SB.b ‹_›)).fr).mono ?_
        rintro e v4 ⟨rfl, hb4⟩
        dsimp only
        refine hK.out _ _ (SB.next (by assumption) hb4) (fun hHeld => ?_)
        clear hK K
        try simp only [Act.put, s1, s2, s3]
        refine tk 4 33 (.string (rb2 o ++ bTs o.fins)) ?_ (hv := by (intro V hV; clear hV; go_simp; (try first | rfl | omega)))
        try simp only [s1, s2, s3]
        refine tk 11 40 (.string (rb2 o ++ bTs o.fins ++ bB (o.labels.length : Int))) ?_ (hv := by (intro V hV; clear hV; go_simp; (try first | rfl | omega)))
        try simp only [s1, s2, s3]
        refine tk 12 3 (.string (rb2 o ++ bTs o.fins ++ bB (o.labels.length : Int))) ?_ (hv := by (intro V hV; clear hV; go_simp; (try first | rfl | omega)))
        try simp only [s1, s2, s3]
        refine wpAnyH_done (by kernel_rfl) ?_ _
        have HE := Lib.hid hHeld
        repeat clear hHeld
        go_wp2
        go_meet
        case rel => exact ⟨rfl, Lib.hid HE.out.nil⟩
      exact AllReadyH.nil
    exact AllReadyH.nil
  obtain ⟨rfl, HB5⟩ := hcut
  clear HB y2 y4 y5 s7 wl
  go_wp2
  go_loopw [3, 4] (fun s j wr => ∃ (k : Nat) (b : ByteArray), k ≤ o.labels.length ∧ j = .int .i64 k ∧ s = .string b ∧ b.size ≤ 8600 + 402 * k ∧ Hid (BL b = BL (rb3 o) ++ (o.labels.take k).flatMap eP ∧ SB x (oc o f l c p i) w1 [] wr)) (fun _ j _ => o.labels.length - (intOf j).toNat)
  case atStart => exact ⟨0, _, Nat.zero_le _, rfl, rfl, by omega, Lib.hid ⟨by simp, HB5.out⟩⟩
  case round =>
    obtain ⟨k, b, hk, rfl, rfl, hbz, H⟩ := hrel
    have l40 : (o.labels.length : Int) ≤ 40 := by have := HF.out.labels.1; omega
    have kx6 := ka6 _ H.out.2.is
    by_cases hkn : k < o.labels.length
    · obtain ⟨u, hu⟩ : ∃ u, o.labels[k]? = some u := ⟨_, List.getElem?_eq_getElem hkn⟩
      have hum := HF.out.labels.2 u (List.mem_of_getElem? hu)
      have h1 := flat_at cP 2 (fun _ => rfl) o.labels k u hu 0 (by omega)
      have h2 := flat_at cP 2 (fun _ => rfl) o.labels k u hu 1 (by omega)
      obtain ⟨ad, hA, c1⟩ := R1.out.lr _ _ h1
      obtain ⟨bd, hB, c2⟩ := R1.out.lr _ _ h2
      obtain rfl : ad = bd := by rw [hA] at hB; injection hB
      rw [← addadd] at c1 c2
      have c1' : w1.cell? (ad.add (k * 2)) = some (.string u.1) := by rw [addz] at c1; exact c1
      have c2' : w1.cell? ⟨(ad.add (k * 2)).block, (ad.add (k * 2)).off + 1, none⟩ = some (.string u.2) := c2
      have ke6 : ∀ V : World, V.heap[x]? = some (.cells (oc o f l c p i) 32 (0, 0)) → V.cell? ⟨x, 6, none⟩ = some (.slice (some ad) o.labels.length l.c) := fun V hV => by rw [← hA]; exact ka6 V hV
      have C1 := Lib.hid (fun (V : World) (h : Below w1.heap.size w1 V) => G.cell_below h c1')
      have C2 := Lib.hid (fun (V : World) (h : Below w1.heap.size w1 V) => G.cell_below h c2')
      have HU := Lib.hid hu
      have t1 : (bT u.1).size ≤ 201 := by rw [bT_size]; omega
      have t2 : (bT u.2).size ≤ 201 := by rw [bT_size]; omega
      have t3 : (b ++ bT u.1).size ≤ 8801 + 402 * k := by rw [ByteArray.size_append]; omega
      have hkl : (k : Int) < o.labels.length := by omega
      rw [hA] at kx6
      clear h1 h2 hA hB c1 c2 c1' c2' hu
      go_upto_region 9 with (fail)
      clear kx6
      refine wp_region_held_drew (S := SB x (oc o f l c p i) w1 []) (by kernel_rfl) H.out.2.drew (fun hS0 => ?_)
      refine tk 0 48 (.string b) ?_
      try simp only [s1, s2, s3]
      refine tk 1 49 (.pointer (some ⟨x, 6, none⟩)) ?_
      try simp only [s1, s2, s3]
      refine tk 2 50 (.slice (some ad) o.labels.length l.c) ?_ (hv := by (intro V hV; have hc := ke6 V hV.is; clear hV; go_simp; try rfl))
      try simp only [s1, s2, s3]
      refine tk 3 51 (.int .i64 (k : Nat)) ?_
      try simp only [s1, s2, s3]
      refine tk 4 52 (.pointer (some (ad.add (k * 2)))) ?_
      try simp only [s1, s2, s3]
      refine tk 5 53 (.pointer (some (ad.add (k * 2)))) ?_
      try simp only [s1, s2, s3]
      refine tk 6 54 (.string u.1) ?_ (hv := by (intro V hV; have hc := C1.out V hV.b; clear hV; go_simp; try rfl))
      try simp only [s1, s2, s3]
      refine tk 9 57 (.pointer (some ⟨x, 6, none⟩)) ?_
      try simp only [s1, s2, s3]
      refine tk 10 58 (.slice (some ad) o.labels.length l.c) ?_ (hv := by (intro V hV; have hc := ke6 V hV.is; clear hV; go_simp; try rfl))
      try simp only [s1, s2, s3]
      refine tk 11 59 (.int .i64 (k : Nat)) ?_
      try simp only [s1, s2, s3]
      refine tk 12 60 (.pointer (some (ad.add (k * 2)))) ?_
      try simp only [s1, s2, s3]
      refine tk 13 61 (.pointer (some ⟨(ad.add (k * 2)).block, (ad.add (k * 2)).off + 1, none⟩)) ?_
      try simp only [s1, s2, s3]
      refine tk 14 62 (.string u.2) ?_ (hv := by (intro V hV; have hc := C2.out V hV.b; clear hV; go_simp; try rfl))
      try simp only [s1, s2, s3]
      refine wpAnyH_ready (rs := [7]) (by kernel_rfl) (by simp) ?_
      refine AllReadyH.cons rfl (fun K hK => ?_) ?_
      · rw [if_pos (by rfl)]
        go_simp
        go_at_call 59
        refine (rtext_any u.1 hum.1 _).mono ?_
        rintro e v1 ⟨rfl, hb1⟩
        dsimp only
        refine hK.out _ _ (SB.next (by assumption) hb1) (fun hHeld => ?_)
        clear hK K
        try simp only [Act.put, s1, s2, s3]
        refine tk 8 56 (.string (b ++ bT u.1)) ?_ (hv := by (intro V hV; clear hV; go_simp; (try first | rfl | omega)))
        try simp only [s1, s2, s3]
        refine wpAnyH_ready (rs := [15]) (by kernel_rfl) (by simp) ?_
        refine AllReadyH.cons rfl (fun K hK => ?_) ?_
        · rw [if_pos (by rfl)]
          go_simp
          go_at_call 59
          refine (rtext_any u.2 hum.2 _).mono ?_
          rintro e v2 ⟨rfl, hb2⟩
          dsimp only
          refine hK.out _ _ (SB.next (by assumption) hb2) (fun hHeld => ?_)
          clear hK K
          try simp only [Act.put, s1, s2, s3]
          refine tk 16 64 (.string (b ++ bT u.1 ++ bT u.2)) ?_ (hv := by (intro V hV; clear hV; go_simp; (try first | rfl | omega)))
          try simp only [s1, s2, s3]
          refine tk 17 3 (.string (b ++ bT u.1 ++ bT u.2)) ?_ (hv := by (intro V hV; clear hV; go_simp; (try first | rfl | omega)))
          try simp only [s1, s2, s3]
          refine wpAnyH_done (by kernel_rfl) ?_ _
          have HE := Lib.hid hHeld
          repeat clear hHeld
          clear hS0
          go_wp2
          go_roundw
          case rel =>
            refine ⟨k + 1, _, by omega, by go_num, rfl, by rw [ByteArray.size_append]; omega, Lib.hid ⟨?_, HE.out⟩⟩
            rw [BL_append, BL_append, BL_bT, BL_bT, H.out.1, List.take_add_one, HU.out]
            simp [List.flatMap_append, eP]
          case measure => simp [intOf]; omega
        exact AllReadyH.nil
      exact AllReadyH.nil
    · obtain rfl : k = o.labels.length := by omega
      have hh := rb_head o b (by have := H.out.1; rwa [List.take_length] at this)
      have HH := Lib.hid hh
      have HB9 := Lib.hid H.out.2
      have hbz2 : b.size ≤ 30000 := by omega
      have kx0 := ka0 _ H.out.2.is
      clear hh hkn hbz H hk
      have g1 := HF.out.type.1
      have g2 := HF.out.type.2
      have g3 := HF.out.policy.1
      have g4 := HF.out.policy.2
      have g5 : (o.fams.length : Int) ≤ 40 := by have := HF.out.fams.1; omega
      have kx9 := ka9 _ HB9.out.is
      have kx10 := ka10 _ HB9.out.is
      have kx11 := ka11 _ HB9.out.is
      have hcv := conv3 o.type o.policy (o.fams.length : Int) wr
      have z1 : (bB o.type ++ bB o.policy ++ bB (o.fams.length : Int)).size = 3 := by simp only [ByteArray.size_append, bB_size]
      go_wp2
      clear hcv
      go_loopw [3, 5] (fun s j wq => ∃ (k : Nat) (d : ByteArray), k ≤ o.fams.length ∧ j = .int .i64 k ∧ s = .string d ∧ d.size ≤ 30003 + k ∧ Hid (BL d = eHead o ++ (eB o.type ++ eB o.policy ++ eB o.fams.length) ++ (o.fams.take k).flatMap eB ∧ SB x (oc o f l c p i) w1 [] wq)) (fun _ j _ => o.fams.length - (intOf j).toNat)
      case atStart =>
        refine ⟨0, _, Nat.zero_le _, rfl, rfl, by rw [ByteArray.size_append]; omega, Lib.hid ⟨?_, HB9.out.next (bel_alloc _ _)⟩⟩
        simp only [BL_append, BL_bB, HH.out, List.append_assoc, List.take_zero, List.flatMap_nil, List.append_nil]
      case round =>
        obtain ⟨m, d, hm, rfl, rfl, hdz, G⟩ := hrel
        clear kx0 kx6 kx9 kx10 kx11
        have kx11 := ka11 _ G.out.2.is
        by_cases hmn : m < o.fams.length
        · obtain ⟨u, hu⟩ : ∃ u, o.fams[m]? = some u := ⟨_, List.getElem?_eq_getElem hmn⟩
          have hum := HF.out.fams.2 u (List.mem_of_getElem? hu)
          have u0 := hum.1
          have u1 := hum.2
          have h1 := flat_at cI 1 (fun _ => rfl) o.fams m u hu 0 (by omega)
          obtain ⟨ad, hA, c1⟩ := (R1.out.below G.out.2.b).pr _ _ h1
          simp only [Nat.mul_one, Nat.add_zero] at c1
          rw [hA] at kx11
          have hcv := conv1 u _ _ (cell_new1 wr u)
          have z2 : (bB u).size = 1 := bB_size _
          have HU := Lib.hid hu
          clear h1 hA hu hum
          go_wp2
          go_roundw
          case rel =>
            refine ⟨m + 1, _, by omega, by go_num, rfl, by rw [ByteArray.size_append]; omega, Lib.hid ⟨?_, G.out.2.next (bel_alloc _ _)⟩⟩
            rw [BL_append, BL_bB, G.out.1, List.take_add_one, HU.out]
            simp [List.flatMap_append]
          case measure => simp [intOf]; omega
        · obtain rfl : m = o.fams.length := by omega
          have z3 : (bTs o.ips).size ≤ 8100 := bTs_size _ HF.out.ips.1 HF.out.ips.2
          have kx12 := ka12 _ G.out.2.is
          go_wp2_with (go_at_call 83; refine (rtextsB_any o.ips i.A i.c (by have := HF.out.ips.1; omega) HF.out.ips.2 _ (R1.out.below G.out.2.b).ir).mono ?_; rintro e w9 ⟨rfl, hb9⟩)
          go_ret
          refine ⟨ret_bytes ?_, B1.out.trans (belowLe B1.out.size (G.out.2.next hb9).b)⟩
          rw [enc_ob o HF.out.kind]
          have hg := G.out.1
          rw [List.take_length] at hg
          simp only [BL_append, BL_ofBL, hg, bTs]
          rw [show eTail o = eB o.type ++ eB o.policy ++ (eB o.fams.length ++ o.fams.flatMap eB) ++ (eB o.ips.length ++ o.ips.flatMap eT) by unfold eTail; rw [if_neg (by have := HK.out; omega), if_pos HK.out]]
          simp only [List.append_assoc]
set_option maxRecDepth 100000 in
set_option maxHeartbeats 16000000 in
theorem rbytes_3 (o : Ob) (f l c p i : Sl) (hf : Fits o) (hk : o.kind = 3) (w : World) (hr : RowsR w o f l c p i) :
    Calls Try.prog 48 #[.agg (oc o f l c p i)] w fun e w' => e = .returned (.string (bytesS o)) ∧ Below w.heap.size w w' := by
  have kk1 : (o.kind == 1) = false := by rw [hk]; rfl
  have kk2 : (o.kind == 2) = false := by rw [hk]; rfl
  have kk3 : (o.kind == 3) = true := by rw [hk]; rfl
  have kk4 : (o.kind == 4) = false := by rw [hk]; rfl
  have HK := Lib.hid hk
  clear hk
  obtain ⟨w1, hw1, b1, p1⟩ := box_one w (oc o f l c p i) 32
  obtain ⟨x, hx⟩ : ∃ x, x = w.heap.size := ⟨_, rfl⟩
  have lw := (Array.getElem?_eq_some_iff.1 p1).1
  rw [← hx] at p1 lw
  have ka0 : ∀ V : World, V.heap[x]? = some (.cells (oc o f l c p i) 32 (0, 0)) → V.cell? ⟨x, 0, none⟩ = some (.int .i64 o.kind) := fun V hV => by simp [World.cell?, hV, oc]
  have ka1 : ∀ V : World, V.heap[x]? = some (.cells (oc o f l c p i) 32 (0, 0)) → V.cell? ⟨x, 1, none⟩ = some (.string o.name) := fun V hV => by simp [World.cell?, hV, oc]
  have ka2 : ∀ V : World, V.heap[x]? = some (.cells (oc o f l c p i) 32 (0, 0)) → V.cell? ⟨x, 2, none⟩ = some (.int .i64 o.uid) := fun V hV => by simp [World.cell?, hV, oc]
  have ka3 : ∀ V : World, V.heap[x]? = some (.cells (oc o f l c p i) 32 (0, 0)) → V.cell? ⟨x, 3, none⟩ = some (.int .i64 o.version) := fun V hV => by simp [World.cell?, hV, oc]
  have ka4 : ∀ V : World, V.heap[x]? = some (.cells (oc o f l c p i) 32 (0, 0)) → V.cell? ⟨x, 4, none⟩ = some (.bool o.deleting) := fun V hV => by simp [World.cell?, hV, oc]
  have ka5 : ∀ V : World, V.heap[x]? = some (.cells (oc o f l c p i) 32 (0, 0)) → V.cell? ⟨x, 5, none⟩ = some (.slice f.A o.fins.length f.c) := fun V hV => by simp [World.cell?, hV, oc]
  have ka6 : ∀ V : World, V.heap[x]? = some (.cells (oc o f l c p i) 32 (0, 0)) → V.cell? ⟨x, 6, none⟩ = some (.slice l.A o.labels.length l.c) := fun V hV => by simp [World.cell?, hV, oc]
  have ka7 : ∀ V : World, V.heap[x]? = some (.cells (oc o f l c p i) 32 (0, 0)) → V.cell? ⟨x, 7, none⟩ = some (.slice c.A o.cidrs.length c.c) := fun V hV => by simp [World.cell?, hV, oc]
  have ka8 : ∀ V : World, V.heap[x]? = some (.cells (oc o f l c p i) 32 (0, 0)) → V.cell? ⟨x, 8, none⟩ = some (.string o.status) := fun V hV => by simp [World.cell?, hV, oc]
  have ka9 : ∀ V : World, V.heap[x]? = some (.cells (oc o f l c p i) 32 (0, 0)) → V.cell? ⟨x, 9, none⟩ = some (.int .i64 o.type) := fun V hV => by simp [World.cell?, hV, oc]
  have ka10 : ∀ V : World, V.heap[x]? = some (.cells (oc o f l c p i) 32 (0, 0)) → V.cell? ⟨x, 10, none⟩ = some (.int .i64 o.policy) := fun V hV => by simp [World.cell?, hV, oc]
  have ka11 : ∀ V : World, V.heap[x]? = some (.cells (oc o f l c p i) 32 (0, 0)) → V.cell? ⟨x, 11, none⟩ = some (.slice p.A o.fams.length p.c) := fun V hV => by simp [World.cell?, hV, oc]
  have ka12 : ∀ V : World, V.heap[x]? = some (.cells (oc o f l c p i) 32 (0, 0)) → V.cell? ⟨x, 12, none⟩ = some (.slice i.A o.ips.length i.c) := fun V hV => by simp [World.cell?, hV, oc]
  have ka13 : ∀ V : World, V.heap[x]? = some (.cells (oc o f l c p i) 32 (0, 0)) → V.cell? ⟨x, 13, none⟩ = some (.string o.v4) := fun V hV => by simp [World.cell?, hV, oc]
  have ka14 : ∀ V : World, V.heap[x]? = some (.cells (oc o f l c p i) 32 (0, 0)) → V.cell? ⟨x, 14, none⟩ = some (.string o.v6) := fun V hV => by simp [World.cell?, hV, oc]
  have ka15 : ∀ V : World, V.heap[x]? = some (.cells (oc o f l c p i) 32 (0, 0)) → V.cell? ⟨x, 15, none⟩ = some (.int .i64 o.bits) := fun V hV => by simp [World.cell?, hV, oc]
  have ka16 : ∀ V : World, V.heap[x]? = some (.cells (oc o f l c p i) 32 (0, 0)) → V.cell? ⟨x, 16, none⟩ = some (.string o.sel) := fun V hV => by simp [World.cell?, hV, oc]
  have ka17 : ∀ V : World, V.heap[x]? = some (.cells (oc o f l c p i) 32 (0, 0)) → V.cell? ⟨x, 17, none⟩ = some (.string o.about) := fun V hV => by simp [World.cell?, hV, oc]
  have ka18 : ∀ V : World, V.heap[x]? = some (.cells (oc o f l c p i) 32 (0, 0)) → V.cell? ⟨x, 18, none⟩ = some (.string o.reason) := fun V hV => by simp [World.cell?, hV, oc]
  have sb1 : SB x (oc o f l c p i) w1 [] w1 := ⟨p1, Below.refl _ _, by simp, lw⟩
  have R1 := Lib.hid (hr.below b1)
  have HF := Lib.hid hf
  have SB1 := Lib.hid sb1
  have HW := Lib.hid hw1
  have B1 := Lib.hid b1
  have k1 := hf.kind.1
  have k2 := hf.kind.2
  have wk := u8w (n := o.kind) (by omega) (by omega)
  have wl := u8w (n := (o.labels.length : Int)) (by omega) (by have := hf.labels.1; omega)
  have z0 : (bB o.kind).size = 1 := bB_size _
  have z1 : (bT o.name).size ≤ 201 := by rw [bT_size]; have := hf.name; omega
  have z2 : (num8 o.uid.toNat).size = 8 := num8_size _
  have z3 : (num8 o.version.toNat).size = 8 := num8_size _
  have y1 : (rb1 o).size ≤ 300 := rb1_size o hf.name
  have y2 : (rb2 o).size ≤ 301 := rb2_size o hf.name
  have y3 : (rb3 o).size ≤ 8600 := rb3_size o hf.name hf.fins.1 hf.fins.2
  have y4 : (bTs o.fins).size ≤ 8100 := bTs_size _ hf.fins.1 hf.fins.2
  have y5 : (bB (o.labels.length : Int)).size = 1 := bB_size _
  have s5 : (bB o.kind ++ bT o.name).size ≤ 202 := by rw [ByteArray.size_append]; omega
  have s6 : (bB o.kind ++ bT o.name ++ num8 o.uid.toNat).size ≤ 210 := by rw [ByteArray.size_append, ByteArray.size_append]; omega
  have s7 : (rb2 o ++ bTs o.fins).size ≤ 8500 := by rw [ByteArray.size_append]; omega
  clear sb1 hr hf hw1 b1 p1 lw
  go_enter Try.func48, Try.ntmps48
  go_upto_region 1 with (fail)
  rw [← HW.out, ← hx]
  clear hx
  go_cut [3] from 6 to 22 (fun v w' => v = .string (rb1 o) ∧ Hid (SB x (oc o f l c p i) w1 [] w'))
  case first =>
    refine wp_region_held_drew (S := SB x (oc o f l c p i) w1 []) (by kernel_rfl) SB1.out.drew (fun hS0 => ?_)
    refine tk 0 6 (.pointer (some ⟨x, 0, none⟩)) ?_
    try simp only [s1, s2, s3]
    refine tk 1 7 (.int .i64 o.kind) ?_ (hv := by (intro V hV; have hc := ka0 V hV.is; clear hV; go_simp; try rfl))
    try simp only [s1, s2, s3]
    refine tk 2 8 (.int .u8 (o.kind)) ?_
    try simp only [s1, s2, s3]
    refine tk 5 11 (.pointer (some ⟨x, 1, none⟩)) ?_
    try simp only [s1, s2, s3]
    refine tk 6 12 (.string o.name) ?_ (hv := by (intro V hV; have hc := ka1 V hV.is; clear hV; go_simp; try rfl))
    try simp only [s1, s2, s3]
    refine tk 9 15 (.pointer (some ⟨x, 2, none⟩)) ?_
    try simp only [s1, s2, s3]
    refine tk 10 16 (.int .i64 o.uid) ?_ (hv := by (intro V hV; have hc := ka2 V hV.is; clear hV; go_simp; try rfl))
    try simp only [s1, s2, s3]
    refine tk 13 19 (.pointer (some ⟨x, 3, none⟩)) ?_
    try simp only [s1, s2, s3]
    refine tk 14 20 (.int .i64 o.version) ?_ (hv := by (intro V hV; have hc := ka3 V hV.is; clear hV; go_simp; try rfl))
    try simp only [s1, s2, s3]
    refine wpAnyH_ready (rs := [3, 7]) (by kernel_rfl) (by simp) ?_
    refine AllReadyH.cons rfl (fun K hK => ?_) ?_
    · rw [if_pos (by rfl)]
      refine wp_build1 9 8 (o.kind) rfl rfl rfl ?_
      intro b1 v1 hc1 hb1
      refine hK.out _ _ (SB.next (by assumption) hb1) (fun hHeld => ?_)
      clear hK K
      have hHeld := SB.add hHeld hc1
      refine wpAnyH_str (S' := SB x (oc o f l c p i) w1 [(⟨b1, 0, none⟩, .int .u8 (o.kind))]) (fun V h => h.weak) _ _ _ _ ?_
      try simp only [Act.put, s1, s2, s3]
      refine tk 4 10 (.string (bB (o.kind))) ?_ (hv := by (intro V hV; have hc := conv1 (o.kind) V b1 (hV.l (⟨b1, 0, none⟩, .int .u8 (o.kind)) (by simp)); clear hV; go_simp; try rfl))
      try simp only [s1, s2, s3]
      refine wpAnyH_ready (rs := [7]) (by kernel_rfl) (by simp) ?_
      refine AllReadyH.cons rfl (fun K hK => ?_) ?_
      · rw [if_pos (by rfl)]
        go_simp
        go_at_call 59
        refine (rtext_any o.name HF.out.name _).mono ?_
        rintro e v2 ⟨rfl, hb2⟩
        dsimp only
        refine hK.out _ _ (SB.next (by assumption) hb2) (fun hHeld => ?_)
        clear hK K
        try simp only [Act.put, s1, s2, s3]
        refine tk 8 14 (.string (bB o.kind ++ bT o.name)) ?_ (hv := by (intro V hV; clear hV; go_simp; (try first | rfl | omega)))
        try simp only [s1, s2, s3]
        refine wpAnyH_ready (rs := [11]) (by kernel_rfl) (by simp) ?_
        refine AllReadyH.cons rfl (fun K hK => ?_) ?_
        · rw [if_pos (by rfl)]
          go_simp
          go_at_call 14
          refine (rnumI_any o.uid HF.out.uid.1 HF.out.uid.2 _).mono ?_
          rintro e v3 ⟨rfl, hb3⟩
          dsimp only
          refine hK.out _ _ (SB.next (by assumption) hb3) (fun hHeld => ?_)
          clear hK K
          try simp only [Act.put, s1, s2, s3]
          refine tk 12 18 (.string (bB o.kind ++ bT o.name ++ num8 o.uid.toNat)) ?_ (hv := by (intro V hV; clear hV; go_simp; (try first | rfl | omega)))
          try simp only [s1, s2, s3]
          refine wpAnyH_ready (rs := [15]) (by kernel_rfl) (by simp) ?_
          refine AllReadyH.cons rfl (fun K hK => ?_) ?_
          · rw [if_pos (by rfl)]
            go_simp
            go_at_call 14
            refine (rnumI_any o.version HF.out.version.1 HF.out.version.2 _).mono ?_
            rintro e v4 ⟨rfl, hb4⟩
            dsimp only
            refine hK.out _ _ (SB.next (by assumption) hb4) (fun hHeld => ?_)
            clear hK K
            try simp only [Act.put, s1, s2, s3]
            refine tk 16 22 (.string (bB o.kind ++ bT o.name ++ num8 o.uid.toNat ++ num8 o.version.toNat)) ?_ (hv := by (intro V hV; clear hV; go_simp; (try first | rfl | omega)))
            try simp only [s1, s2, s3]
            refine tk 17 3 (.string (bB o.kind ++ bT o.name ++ num8 o.uid.toNat ++ num8 o.version.toNat)) ?_
            try simp only [s1, s2, s3]
            refine wpAnyH_done (by kernel_rfl) ?_ _
            have HE := Lib.hid hHeld
            repeat clear hHeld
            go_wp2
            go_meet
            case rel => exact ⟨rfl, Lib.hid HE.out.nil⟩
          exact AllReadyH.nil
        exact AllReadyH.nil
      exact AllReadyH.nil
    refine AllReadyH.cons rfl (fun K hK => ?_) ?_
    · rw [if_pos (by rfl)]
      go_simp
      go_at_call 59
      refine (rtext_any o.name HF.out.name _).mono ?_
      rintro e v5 ⟨rfl, hb5⟩
      dsimp only
      refine hK.out _ _ (SB.next (by assumption) hb5) (fun hHeld => ?_)
      clear hK K
      try simp only [Act.put, s1, s2, s3]
      refine wpAnyH_ready (rs := [3, 11]) (by kernel_rfl) (by simp) ?_
      refine AllReadyH.cons rfl (fun K hK => ?_) ?_
      · rw [if_pos (by rfl)]
        refine wp_build1 9 8 (o.kind) rfl rfl rfl ?_
        intro b6 v6 hc6 hb6
        refine hK.out _ _ (SB.next (by assumption) hb6) (fun hHeld => ?_)
        clear hK K
        have hHeld := SB.add hHeld hc6
        refine wpAnyH_str (S' := SB x (oc o f l c p i) w1 [(⟨b6, 0, none⟩, .int .u8 (o.kind))]) (fun V h => h.weak) _ _ _ _ ?_
        try simp only [Act.put, s1, s2, s3]
        refine tk 4 10 (.string (bB (o.kind))) ?_ (hv := by (intro V hV; have hc := conv1 (o.kind) V b6 (hV.l (⟨b6, 0, none⟩, .int .u8 (o.kind)) (by simp)); clear hV; go_simp; try rfl))
        try simp only [s1, s2, s3]
        refine tk 8 14 (.string (bB o.kind ++ bT o.name)) ?_ (hv := by (intro V hV; clear hV; go_simp; (try first | rfl | omega)))
        try simp only [s1, s2, s3]
        refine wpAnyH_ready (rs := [11]) (by kernel_rfl) (by simp) ?_
        refine AllReadyH.cons rfl (fun K hK => ?_) ?_
        · rw [if_pos (by rfl)]
          go_simp
          go_at_call 14
          refine (rnumI_any o.uid HF.out.uid.1 HF.out.uid.2 _).mono ?_
          rintro e v7 ⟨rfl, hb7⟩
          dsimp only
          refine hK.out _ _ (SB.next (by assumption) hb7) (fun hHeld => ?_)
          clear hK K
          try simp only [Act.put, s1, s2, s3]
          refine tk 12 18 (.string (bB o.kind ++ bT o.name ++ num8 o.uid.toNat)) ?_ (hv := by (intro V hV; clear hV; go_simp; (try first | rfl | omega)))
          try simp only [s1, s2, s3]
          refine wpAnyH_ready (rs := [15]) (by kernel_rfl) (by simp) ?_
          refine AllReadyH.cons rfl (fun K hK => ?_) ?_
          · rw [if_pos (by rfl)]
            go_simp
            go_at_call 14
            refine (rnumI_any o.version HF.out.version.1 HF.out.version.2 _).mono ?_
            rintro e v8 ⟨rfl, hb8⟩
            dsimp only
            refine hK.out _ _ (SB.next (by assumption) hb8) (fun hHeld => ?_)
            clear hK K
            try simp only [Act.put, s1, s2, s3]
            refine tk 16 22 (.string (bB o.kind ++ bT o.name ++ num8 o.uid.toNat ++ num8 o.version.toNat)) ?_ (hv := by (intro V hV; clear hV; go_simp; (try first | rfl | omega)))
            try simp only [s1, s2, s3]
            refine tk 17 3 (.string (bB o.kind ++ bT o.name ++ num8 o.uid.toNat ++ num8 o.version.toNat)) ?_
            try simp only [s1, s2, s3]
            refine wpAnyH_done (by kernel_rfl) ?_ _
            have HE := Lib.hid hHeld
            repeat clear hHeld
            go_wp2
            go_meet
            case rel => exact ⟨rfl, Lib.hid HE.out.nil⟩
          exact AllReadyH.nil
        exact AllReadyH.nil
      refine AllReadyH.cons rfl (fun K hK => ?_) ?_
      · rw [if_pos (by rfl)]
        go_simp
        go_at_call 14
        refine (rnumI_any o.uid HF.out.uid.1 HF.out.uid.2 _).mono ?_
        rintro e v9 ⟨rfl, hb9⟩
        dsimp only
        refine hK.out _ _ (SB.next (by assumption) hb9) (fun hHeld => ?_)
        clear hK K
        try simp only [Act.put, s1, s2, s3]
        refine wpAnyH_ready (rs := [3, 15]) (by kernel_rfl) (by simp) ?_
        refine AllReadyH.cons rfl (fun K hK => ?_) ?_
        · rw [if_pos (by rfl)]
          refine wp_build1 9 8 (o.kind) rfl rfl rfl ?_
          intro b10 v10 hc10 hb10
          refine hK.out _ _ (SB.next (by assumption) hb10) (fun hHeld => ?_)
          clear hK K
          have hHeld := SB.add hHeld hc10
          refine wpAnyH_str (S' := SB x (oc o f l c p i) w1 [(⟨b10, 0, none⟩, .int .u8 (o.kind))]) (fun V h => h.weak) _ _ _ _ ?_
          try simp only [Act.put, s1, s2, s3]
          refine tk 4 10 (.string (bB (o.kind))) ?_ (hv := by (intro V hV; have hc := conv1 (o.kind) V b10 (hV.l (⟨b10, 0, none⟩, .int .u8 (o.kind)) (by simp)); clear hV; go_simp; try rfl))
          try simp only [s1, s2, s3]
          refine tk 8 14 (.string (bB o.kind ++ bT o.name)) ?_ (hv := by (intro V hV; clear hV; go_simp; (try first | rfl | omega)))
          try simp only [s1, s2, s3]
          refine tk 12 18 (.string (bB o.kind ++ bT o.name ++ num8 o.uid.toNat)) ?_ (hv := by (intro V hV; clear hV; go_simp; (try first | rfl | omega)))
          try simp only [s1, s2, s3]
          refine wpAnyH_ready (rs := [15]) (by kernel_rfl) (by simp) ?_
          refine AllReadyH.cons rfl (fun K hK => ?_) ?_
          · rw [if_pos (by rfl)]
            go_simp
            go_at_call 14
            refine (rnumI_any o.version HF.out.version.1 HF.out.version.2 _).mono ?_
            rintro e v11 ⟨rfl, hb11⟩
            dsimp only
            refine hK.out _ _ (SB.next (by assumption) hb11) (fun hHeld => ?_)
            clear hK K
            try simp only [Act.put, s1, s2, s3]
            refine tk 16 22 (.string (bB o.kind ++ bT o.name ++ num8 o.uid.toNat ++ num8 o.version.toNat)) ?_ (hv := by (intro V hV; clear hV; go_simp; (try first | rfl | omega)))
            try simp only [s1, s2, s3]
            refine tk 17 3 (.string (bB o.kind ++ bT o.name ++ num8 o.uid.toNat ++ num8 o.version.toNat)) ?_
            try simp only [s1, s2, s3]
            refine wpAnyH_done (by kernel_rfl) ?_ _
            have HE := Lib.hid hHeld
            repeat clear hHeld
            go_wp2
            go_meet
            case rel => exact ⟨rfl, Lib.hid HE.out.nil⟩
          exact AllReadyH.nil
        refine AllReadyH.cons rfl (fun K hK => ?_) ?_
        · rw [if_pos (by rfl)]
          go_simp
          go_at_call 14
          refine (rnumI_any o.version HF.out.version.1 HF.out.version.2 _).mono ?_
          rintro e v12 ⟨rfl, hb12⟩
          dsimp only
          refine hK.out _ _ (SB.next (by assumption) hb12) (fun hHeld => ?_)
          clear hK K
          try simp only [Act.put, s1, s2, s3]
          refine wpAnyH_ready (rs := [3]) (by kernel_rfl) (by simp) ?_
          refine AllReadyH.cons rfl (fun K hK => ?_) ?_
          · rw [if_pos (by rfl)]
            refine wp_build1 9 8 (o.kind) rfl rfl rfl ?_
            intro b13 v13 hc13 hb13
            refine hK.out _ _ (SB.next (by assumption) hb13) (fun hHeld => ?_)
            clear hK K
            have hHeld := SB.add hHeld hc13
            refine wpAnyH_str (S' := SB x (oc o f l c p i) w1 [(⟨b13, 0, none⟩, .int .u8 (o.kind))]) (fun V h => h.weak) _ _ _ _ ?_
            try simp only [Act.put, s1, s2, s3]
            refine tk 4 10 (.string (bB (o.kind))) ?_ (hv := by (intro V hV; have hc := conv1 (o.kind) V b13 (hV.l (⟨b13, 0, none⟩, .int .u8 (o.kind)) (by simp)); clear hV; go_simp; try rfl))
            try simp only [s1, s2, s3]
            refine tk 8 14 (.string (bB o.kind ++ bT o.name)) ?_ (hv := by (intro V hV; clear hV; go_simp; (try first | rfl | omega)))
            try simp only [s1, s2, s3]
            refine tk 12 18 (.string (bB o.kind ++ bT o.name ++ num8 o.uid.toNat)) ?_ (hv := by (intro V hV; clear hV; go_simp; (try first | rfl | omega)))
            try simp only [s1, s2, s3]
            refine tk 16 22 (.string (bB o.kind ++ bT o.name ++ num8 o.uid.toNat ++ num8 o.version.toNat)) ?_ (hv := by (intro V hV; clear hV; go_simp; (try first | rfl | omega)))
            try simp only [s1, s2, s3]
            refine tk 17 3 (.string (bB o.kind ++ bT o.name ++ num8 o.uid.toNat ++ num8 o.version.toNat)) ?_
            try simp only [s1, s2, s3]
            refine wpAnyH_done (by kernel_rfl) ?_ _
            have HE := Lib.hid hHeld
            repeat clear hHeld
            go_wp2
            go_meet
            case rel => exact ⟨rfl, Lib.hid HE.out.nil⟩
          exact AllReadyH.nil
        exact AllReadyH.nil
      exact AllReadyH.nil
    exact AllReadyH.nil
  obtain ⟨rfl, HB⟩ := hcut
  clear z0 z1 z2 z3 s5 s6 wk
  have kd := ka4 _ HB.out.is
  go_upto_if 24 with (fail)
  clear kd
  go_cut [3] from 23 to 28 (fun v w' => v = .string (rb2 o) ∧ w' = wc)
  case first =>
    cases hd : o.deleting
    · have e2 : rb2 o = rb1 o ++ (⟨#[0]⟩ : ByteArray) := by unfold rb2; rw [hd]; rfl
      have E2 := Lib.hid e2
      have q1 : (⟨#[0]⟩ : ByteArray).size = 1 := rfl
      clear e2
      go_wp2
      go_meet
      case rel => exact ⟨by rw [E2.out], rfl⟩
    · have e2 : rb2 o = rb1 o ++ (⟨#[1]⟩ : ByteArray) := by unfold rb2; rw [hd]; rfl
      have E2 := Lib.hid e2
      have q1 : (⟨#[1]⟩ : ByteArray).size = 1 := rfl
      clear e2
      go_wp2
      go_meet
      case rel => exact ⟨by rw [E2.out], rfl⟩
  obtain ⟨rfl, hwc⟩ := hcut
  subst hwc
  clear y1
  go_upto_region 5 with (fail)
  go_cut [3] from 29 to 40 (fun v w' => v = .string (rb3 o) ∧ Hid (SB x (oc o f l c p i) w1 [] w'))
  case first =>
    refine wp_region_held_drew (S := SB x (oc o f l c p i) w1 []) (by kernel_rfl) HB.out.drew (fun hS0 => ?_)
    refine tk 0 29 (.string (rb2 o)) ?_
    try simp only [s1, s2, s3]
    refine tk 1 30 (.pointer (some ⟨x, 5, none⟩)) ?_
    try simp only [s1, s2, s3]
    refine tk 2 31 (.slice f.A o.fins.length f.c) ?_ (hv := by (intro V hV; have hc := ka5 V hV.is; clear hV; go_simp; try rfl))
    try simp only [s1, s2, s3]
    refine tk 5 34 (.pointer (some ⟨x, 6, none⟩)) ?_
    try simp only [s1, s2, s3]
    refine tk 6 35 (.slice l.A o.labels.length l.c) ?_ (hv := by (intro V hV; have hc := ka6 V hV.is; clear hV; go_simp; try rfl))
    try simp only [s1, s2, s3]
    refine tk 7 36 (.int .i64 (o.labels.length : Nat)) ?_
    try simp only [s1, s2, s3]
    refine tk 8 37 (.int .u8 ((o.labels.length : Nat))) ?_
    try simp only [s1, s2, s3]
    refine wpAnyH_ready (rs := [3, 9]) (by kernel_rfl) (by simp) ?_
    refine AllReadyH.cons rfl (fun K hK => ?_) ?_
    · rw [if_pos (by rfl)]
      go_simp
      go_at_call 83
      refine (rtextsB_any o.fins f.A f.c (by have := HF.out.fins.1; omega) HF.out.fins.2 _ (R1.out.below (SB.b ‹_›)).fr).mono ?_
      rintro e v1 ⟨rfl, hb1⟩
      dsimp only
      refine hK.out _ _ (SB.next (by assumption) hb1) (fun hHeld => ?_)
      clear hK K
      try simp only [Act.put, s1, s2, s3]
      refine tk 4 33 (.string (rb2 o ++ bTs o.fins)) ?_ (hv := by (intro V hV; clear hV; go_simp; (try first | rfl | omega)))
      try simp only [s1, s2, s3]
      refine wpAnyH_ready (rs := [9]) (by kernel_rfl) (by simp) ?_
      refine AllReadyH.cons rfl (fun K hK => ?_) ?_
      · rw [if_pos (by rfl)]
        refine wp_build1 38 37 ((o.labels.length : Int)) rfl rfl rfl ?_
        intro b2 v2 hc2 hb2
        refine hK.out _ _ (SB.next (by assumption) hb2) (fun hHeld => ?_)
        clear hK K
        have hHeld := SB.add hHeld hc2
        refine wpAnyH_str (S' := SB x (oc o f l c p i) w1 [(⟨b2, 0, none⟩, .int .u8 ((o.labels.length : Int)))]) (fun V h => h.weak) _ _ _ _ ?_
        try simp only [Act.put, s1, s2, s3]
        refine tk 10 39 (.string (bB ((o.labels.length : Int)))) ?_ (hv := by (intro V hV; have hc := conv1 ((o.labels.length : Int)) V b2 (hV.l (⟨b2, 0, none⟩, .int .u8 ((o.labels.length : Int))) (by simp)); clear hV; go_simp; try rfl))
        try simp only [s1, s2, s3]
        refine tk 11 40 (.string (rb2 o ++ bTs o.fins ++ bB (o.labels.length : Int))) ?_ (hv := by (intro V hV; clear hV; go_simp; (try first | rfl | omega)))
        try simp only [s1, s2, s3]
        refine tk 12 3 (.string (rb2 o ++ bTs o.fins ++ bB (o.labels.length : Int))) ?_ (hv := by (intro V hV; clear hV; go_simp; (try first | rfl | omega)))
        try simp only [s1, s2, s3]
        refine wpAnyH_done (by kernel_rfl) ?_ _
        have HE := Lib.hid hHeld
        repeat clear hHeld
        go_wp2
        go_meet
        case rel => exact ⟨rfl, Lib.hid HE.out.nil⟩
      exact AllReadyH.nil
    refine AllReadyH.cons rfl (fun K hK => ?_) ?_
    · rw [if_pos (by rfl)]
      refine wp_build1 38 37 ((o.labels.length : Int)) rfl rfl rfl ?_
      intro b3 v3 hc3 hb3
      refine hK.out _ _ (SB.next (by assumption) hb3) (fun hHeld => ?_)
      clear hK K
      have hHeld := SB.add hHeld hc3
      refine wpAnyH_str (S' := SB x (oc o f l c p i) w1 [(⟨b3, 0, none⟩, .int .u8 ((o.labels.length : Int)))]) (fun V h => h.weak) _ _ _ _ ?_
      try simp only [Act.put, s1, s2, s3]
      refine tk 10 39 (.string (bB ((o.labels.length : Int)))) ?_ (hv := by (intro V hV; have hc := conv1 ((o.labels.length : Int)) V b3 (hV.l (⟨b3, 0, none⟩, .int .u8 ((o.labels.length : Int))) (by simp)); clear hV; go_simp; try rfl))
      try simp only [s1, s2, s3]
      refine wpAnyH_ready (rs := [3]) (by kernel_rfl) (by simp) ?_
      refine AllReadyH.cons rfl (fun K hK => ?_) ?_
      · rw [if_pos (by rfl)]
        go_simp
        go_at_call 83
        refine (rtextsB_any o.fins f.A f.c (by have := HF.out.fins.1; omega) HF.out.fins.2 _ (R1.out.below (SB.b ‹_›)).fr).mono ?_
        rintro e v4 ⟨rfl, hb4⟩
        dsimp only
        refine hK.out _ _ (SB.next (by assumption) hb4) (fun hHeld => ?_)
        clear hK K
        try simp only [Act.put, s1, s2, s3]
        refine tk 4 33 (.string (rb2 o ++ bTs o.fins)) ?_ (hv := by (intro V hV; clear hV; go_simp; (try first | rfl | omega)))
        try simp only [s1, s2, s3]
        refine tk 11 40 (.string (rb2 o ++ bTs o.fins ++ bB (o.labels.length : Int))) ?_ (hv := by (intro V hV; clear hV; go_simp; (try first | rfl | omega)))
        try simp only [s1, s2, s3]
        refine tk 12 3 (.string (rb2 o ++ bTs o.fins ++ bB (o.labels.length : Int))) ?_ (hv := by (intro V hV; clear hV; go_simp; (try first | rfl | omega)))
        try simp only [s1, s2, s3]
        refine wpAnyH_done (by kernel_rfl) ?_ _
        have HE := Lib.hid hHeld
        repeat clear hHeld
        go_wp2
        go_meet
        case rel => exact ⟨rfl, Lib.hid HE.out.nil⟩
      exact AllReadyH.nil
    exact AllReadyH.nil
  obtain ⟨rfl, HB5⟩ := hcut
  clear HB y2 y4 y5 s7 wl
  go_wp2
  go_loopw [3, 4] (fun s j wr => ∃ (k : Nat) (b : ByteArray), k ≤ o.labels.length ∧ j = .int .i64 k ∧ s = .string b ∧ b.size ≤ 8600 + 402 * k ∧ Hid (BL b = BL (rb3 o) ++ (o.labels.take k).flatMap eP ∧ SB x (oc o f l c p i) w1 [] wr)) (fun _ j _ => o.labels.length - (intOf j).toNat)
  case atStart => exact ⟨0, _, Nat.zero_le _, rfl, rfl, by omega, Lib.hid ⟨by simp, HB5.out⟩⟩
  case round =>
    obtain ⟨k, b, hk, rfl, rfl, hbz, H⟩ := hrel
    have l40 : (o.labels.length : Int) ≤ 40 := by have := HF.out.labels.1; omega
    have kx6 := ka6 _ H.out.2.is
    by_cases hkn : k < o.labels.length
    · obtain ⟨u, hu⟩ : ∃ u, o.labels[k]? = some u := ⟨_, List.getElem?_eq_getElem hkn⟩
      have hum := HF.out.labels.2 u (List.mem_of_getElem? hu)
      have h1 := flat_at cP 2 (fun _ => rfl) o.labels k u hu 0 (by omega)
      have h2 := flat_at cP 2 (fun _ => rfl) o.labels k u hu 1 (by omega)
      obtain ⟨ad, hA, c1⟩ := R1.out.lr _ _ h1
      obtain ⟨bd, hB, c2⟩ := R1.out.lr _ _ h2
      obtain rfl : ad = bd := by rw [hA] at hB; injection hB
      rw [← addadd] at c1 c2
      have c1' : w1.cell? (ad.add (k * 2)) = some (.string u.1) := by rw [addz] at c1; exact c1
      have c2' : w1.cell? ⟨(ad.add (k * 2)).block, (ad.add (k * 2)).off + 1, none⟩ = some (.string u.2) := c2
      have ke6 : ∀ V : World, V.heap[x]? = some (.cells (oc o f l c p i) 32 (0, 0)) → V.cell? ⟨x, 6, none⟩ = some (.slice (some ad) o.labels.length l.c) := fun V hV => by rw [← hA]; exact ka6 V hV
      have C1 := Lib.hid (fun (V : World) (h : Below w1.heap.size w1 V) => G.cell_below h c1')
      have C2 := Lib.hid (fun (V : World) (h : Below w1.heap.size w1 V) => G.cell_below h c2')
      have HU := Lib.hid hu
      have t1 : (bT u.1).size ≤ 201 := by rw [bT_size]; omega
      have t2 : (bT u.2).size ≤ 201 := by rw [bT_size]; omega
      have t3 : (b ++ bT u.1).size ≤ 8801 + 402 * k := by rw [ByteArray.size_append]; omega
      have hkl : (k : Int) < o.labels.length := by omega
      rw [hA] at kx6
      clear h1 h2 hA hB c1 c2 c1' c2' hu
      go_upto_region 9 with (fail)
      clear kx6
      refine wp_region_held_drew (S := SB x (oc o f l c p i) w1 []) (by kernel_rfl) H.out.2.drew (fun hS0 => ?_)
      refine tk 0 48 (.string b) ?_
      try simp only [s1, s2, s3]
      refine tk 1 49 (.pointer (some ⟨x, 6, none⟩)) ?_
      try simp only [s1, s2, s3]
      refine tk 2 50 (.slice (some ad) o.labels.length l.c) ?_ (hv := by (intro V hV; have hc := ke6 V hV.is; clear hV; go_simp; try rfl))
      try simp only [s1, s2, s3]
      refine tk 3 51 (.int .i64 (k : Nat)) ?_
      try simp only [s1, s2, s3]
      refine tk 4 52 (.pointer (some (ad.add (k * 2)))) ?_
      try simp only [s1, s2, s3]
      refine tk 5 53 (.pointer (some (ad.add (k * 2)))) ?_
      try simp only [s1, s2, s3]
      refine tk 6 54 (.string u.1) ?_ (hv := by (intro V hV; have hc := C1.out V hV.b; clear hV; go_simp; try rfl))
      try simp only [s1, s2, s3]
      refine tk 9 57 (.pointer (some ⟨x, 6, none⟩)) ?_
      try simp only [s1, s2, s3]
      refine tk 10 58 (.slice (some ad) o.labels.length l.c) ?_ (hv := by (intro V hV; have hc := ke6 V hV.is; clear hV; go_simp; try rfl))
      try simp only [s1, s2, s3]
      refine tk 11 59 (.int .i64 (k : Nat)) ?_
      try simp only [s1, s2, s3]
      refine tk 12 60 (.pointer (some (ad.add (k * 2)))) ?_
      try simp only [s1, s2, s3]
      refine tk 13 61 (.pointer (some ⟨(ad.add (k * 2)).block, (ad.add (k * 2)).off + 1, none⟩)) ?_
      try simp only [s1, s2, s3]
      refine tk 14 62 (.string u.2) ?_ (hv := by (intro V hV; have hc := C2.out V hV.b; clear hV; go_simp; try rfl))
      try simp only [s1, s2, s3]
      refine wpAnyH_ready (rs := [7]) (by kernel_rfl) (by simp) ?_
      refine AllReadyH.cons rfl (fun K hK => ?_) ?_
      · rw [if_pos (by rfl)]
        go_simp
        go_at_call 59
        refine (rtext_any u.1 hum.1 _).mono ?_
        rintro e v1 ⟨rfl, hb1⟩
        dsimp only
        refine hK.out _ _ (SB.next (by assumption) hb1) (fun hHeld => ?_)
        clear hK K
        try simp only [Act.put, s1, s2, s3]
        refine tk 8 56 (.string (b ++ bT u.1)) ?_ (hv := by (intro V hV; clear hV; go_simp; (try first | rfl | omega)))
        try simp only [s1, s2, s3]
        refine wpAnyH_ready (rs := [15]) (by kernel_rfl) (by simp) ?_
        refine AllReadyH.cons rfl (fun K hK => ?_) ?_
        · rw [if_pos (by rfl)]
          go_simp
          go_at_call 59
          refine (rtext_any u.2 hum.2 _).mono ?_
          rintro e v2 ⟨rfl, hb2⟩
          dsimp only
          refine hK.out _ _ (SB.next (by assumption) hb2) (fun hHeld => ?_)
          clear hK K
          try simp only [Act.put, s1, s2, s3]
          refine tk 16 64 (.string (b ++ bT u.1 ++ bT u.2)) ?_ (hv := by (intro V hV; clear hV; go_simp; (try first | rfl | omega)))
          try simp only [s1, s2, s3]
          refine tk 17 3 (.string (b ++ bT u.1 ++ bT u.2)) ?_ (hv := by (intro V hV; clear hV; go_simp; (try first | rfl | omega)))
          try simp only [s1, s2, s3]
          refine wpAnyH_done (by kernel_rfl) ?_ _
          have HE := Lib.hid hHeld
          repeat clear hHeld
          clear hS0
          go_wp2
          go_roundw
          case rel =>
            refine ⟨k + 1, _, by omega, by go_num, rfl, by rw [ByteArray.size_append]; omega, Lib.hid ⟨?_, HE.out⟩⟩
            rw [BL_append, BL_append, BL_bT, BL_bT, H.out.1, List.take_add_one, HU.out]
            simp [List.flatMap_append, eP]
          case measure => simp [intOf]; omega
        exact AllReadyH.nil
      exact AllReadyH.nil
    · obtain rfl : k = o.labels.length := by omega
      have hh := rb_head o b (by have := H.out.1; rwa [List.take_length] at this)
      have HH := Lib.hid hh
      have HB9 := Lib.hid H.out.2
      have hbz2 : b.size ≤ 30000 := by omega
      have kx0 := ka0 _ H.out.2.is
      clear hh hkn hbz H hk
      go_upto_region 21 with (fail)
      clear kx0 kx6
      have wb := u8w (n := o.bits) HF.out.bits.1 HF.out.bits.2
      have g1 := HF.out.bits.1
      have g2 := HF.out.bits.2
      have z1 : (bT o.v4).size ≤ 201 := by rw [bT_size]; have := HF.out.v4; omega
      have z2 : (bT o.v6).size ≤ 201 := by rw [bT_size]; have := HF.out.v6; omega
      have z3 : (bT o.sel).size ≤ 201 := by rw [bT_size]; have := HF.out.sel; omega
      have z4 : (bB o.bits).size = 1 := bB_size _
      have z5 : (b ++ bT o.v4).size ≤ 38100 := by rw [ByteArray.size_append]; omega
      have z6 : (b ++ bT o.v4 ++ bT o.v6).size ≤ 38400 := by rw [ByteArray.size_append]; omega
      have z7 : (b ++ bT o.v4 ++ bT o.v6 ++ bB o.bits).size ≤ 38500 := by rw [ByteArray.size_append]; omega
      refine wp_region_held_drew (S := SB x (oc o f l c p i) w1 []) (by kernel_rfl) HB9.out.drew (fun hS0 => ?_)
      refine tk 0 118 (.string b) ?_
      try simp only [s1, s2, s3]
      refine tk 1 119 (.pointer (some ⟨x, 13, none⟩)) ?_
      try simp only [s1, s2, s3]
      refine tk 2 120 (.string o.v4) ?_ (hv := by (intro V hV; have hc := ka13 V hV.is; clear hV; go_simp; try rfl))
      try simp only [s1, s2, s3]
      refine tk 5 123 (.pointer (some ⟨x, 14, none⟩)) ?_
      try simp only [s1, s2, s3]
      refine tk 6 124 (.string o.v6) ?_ (hv := by (intro V hV; have hc := ka14 V hV.is; clear hV; go_simp; try rfl))
      try simp only [s1, s2, s3]
      refine tk 9 127 (.pointer (some ⟨x, 15, none⟩)) ?_
      try simp only [s1, s2, s3]
      refine tk 10 128 (.int .i64 o.bits) ?_ (hv := by (intro V hV; have hc := ka15 V hV.is; clear hV; go_simp; try rfl))
      try simp only [s1, s2, s3]
      refine tk 11 129 (.int .u8 (o.bits)) ?_
      try simp only [s1, s2, s3]
      refine tk 15 133 (.pointer (some ⟨x, 16, none⟩)) ?_
      try simp only [s1, s2, s3]
      refine tk 16 134 (.string o.sel) ?_ (hv := by (intro V hV; have hc := ka16 V hV.is; clear hV; go_simp; try rfl))
      try simp only [s1, s2, s3]
      refine wpAnyH_ready (rs := [3, 12]) (by kernel_rfl) (by simp) ?_
      refine AllReadyH.cons rfl (fun K hK => ?_) ?_
      · rw [if_pos (by rfl)]
        go_simp
        go_at_call 59
        refine (rtext_any o.v4 HF.out.v4 _).mono ?_
        rintro e v1 ⟨rfl, hb1⟩
        dsimp only
        refine hK.out _ _ (SB.next (by assumption) hb1) (fun hHeld => ?_)
        clear hK K
        try simp only [Act.put, s1, s2, s3]
        refine tk 4 122 (.string (b ++ bT o.v4)) ?_ (hv := by (intro V hV; clear hV; go_simp; (try first | rfl | omega)))
        try simp only [s1, s2, s3]
        refine wpAnyH_ready (rs := [7, 12]) (by kernel_rfl) (by simp) ?_
        refine AllReadyH.cons rfl (fun K hK => ?_) ?_
        · rw [if_pos (by rfl)]
          go_simp
          go_at_call 59
          refine (rtext_any o.v6 HF.out.v6 _).mono ?_
          rintro e v2 ⟨rfl, hb2⟩
          dsimp only
          refine hK.out _ _ (SB.next (by assumption) hb2) (fun hHeld => ?_)
          clear hK K
          try simp only [Act.put, s1, s2, s3]
          refine tk 8 126 (.string (b ++ bT o.v4 ++ bT o.v6)) ?_ (hv := by (intro V hV; clear hV; go_simp; (try first | rfl | omega)))
          try simp only [s1, s2, s3]
          refine wpAnyH_ready (rs := [12, 17]) (by kernel_rfl) (by simp) ?_
          refine AllReadyH.cons rfl (fun K hK => ?_) ?_
          · rw [if_pos (by rfl)]
            refine wp_build1 130 129 (o.bits) rfl rfl rfl ?_
            intro b3 v3 hc3 hb3
            refine hK.out _ _ (SB.next (by assumption) hb3) (fun hHeld => ?_)
            clear hK K
            have hHeld := SB.add hHeld hc3
            refine wpAnyH_str (S' := SB x (oc o f l c p i) w1 [(⟨b3, 0, none⟩, .int .u8 (o.bits))]) (fun V h => h.weak) _ _ _ _ ?_
            try simp only [Act.put, s1, s2, s3]
            refine tk 13 131 (.string (bB (o.bits))) ?_ (hv := by (intro V hV; have hc := conv1 (o.bits) V b3 (hV.l (⟨b3, 0, none⟩, .int .u8 (o.bits)) (by simp)); clear hV; go_simp; try rfl))
            try simp only [s1, s2, s3]
            refine tk 14 132 (.string (b ++ bT o.v4 ++ bT o.v6 ++ bB o.bits)) ?_ (hv := by (intro V hV; clear hV; go_simp; (try first | rfl | omega)))
            try simp only [s1, s2, s3]
            refine wpAnyH_ready (rs := [17]) (by kernel_rfl) (by simp) ?_
            refine AllReadyH.cons rfl (fun K hK => ?_) ?_
            · rw [if_pos (by rfl)]
              go_simp
              go_at_call 59
              refine (rtext_any o.sel HF.out.sel _).mono ?_
              rintro e v4 ⟨rfl, hb4⟩
              dsimp only
              refine hK.out _ _ (SB.next (by assumption) hb4) (fun hHeld => ?_)
              clear hK K
              try simp only [Act.put, s1, s2, s3]
              refine tk 18 136 (.string (b ++ bT o.v4 ++ bT o.v6 ++ bB o.bits ++ bT o.sel)) ?_ (hv := by (intro V hV; clear hV; go_simp; (try first | rfl | omega)))
              try simp only [s1, s2, s3]
              refine tk 19 3 (.string (b ++ bT o.v4 ++ bT o.v6 ++ bB o.bits ++ bT o.sel)) ?_ (hv := by (intro V hV; clear hV; go_simp; (try first | rfl | omega)))
              try simp only [s1, s2, s3]
              refine wpAnyH_done (by kernel_rfl) ?_ _
              have HE := Lib.hid hHeld
              repeat clear hHeld
              clear hS0
              go_wp2
              go_ret
              refine ⟨ret_bytes ?_, B1.out.trans (belowLe B1.out.size HE.out.b)⟩
              rw [enc_ob o HF.out.kind]
              simp only [BL_append, BL_bT, BL_bB, BL_ofBL, HH.out]
              rw [show eTail o = [o.v4, o.v6].flatMap eT ++ eB o.bits ++ eT o.sel by unfold eTail; rw [if_neg (by have := HK.out; omega), if_neg (by have := HK.out; omega), if_pos HK.out]]
              simp only [List.append_assoc, List.flatMap_cons, List.flatMap_nil, List.append_nil]
            exact AllReadyH.nil
          refine AllReadyH.cons rfl (fun K hK => ?_) ?_
          · rw [if_pos (by rfl)]
            go_simp
            go_at_call 59
            refine (rtext_any o.sel HF.out.sel _).mono ?_
            rintro e v5 ⟨rfl, hb5⟩
            dsimp only
            refine hK.out _ _ (SB.next (by assumption) hb5) (fun hHeld => ?_)
            clear hK K
            try simp only [Act.put, s1, s2, s3]
            refine wpAnyH_ready (rs := [12]) (by kernel_rfl) (by simp) ?_
            refine AllReadyH.cons rfl (fun K hK => ?_) ?_
            · rw [if_pos (by rfl)]
              refine wp_build1 130 129 (o.bits) rfl rfl rfl ?_
              intro b6 v6 hc6 hb6
              refine hK.out _ _ (SB.next (by assumption) hb6) (fun hHeld => ?_)
              clear hK K
              have hHeld := SB.add hHeld hc6
              refine wpAnyH_str (S' := SB x (oc o f l c p i) w1 [(⟨b6, 0, none⟩, .int .u8 (o.bits))]) (fun V h => h.weak) _ _ _ _ ?_
              try simp only [Act.put, s1, s2, s3]
              refine tk 13 131 (.string (bB (o.bits))) ?_ (hv := by (intro V hV; have hc := conv1 (o.bits) V b6 (hV.l (⟨b6, 0, none⟩, .int .u8 (o.bits)) (by simp)); clear hV; go_simp; try rfl))
              try simp only [s1, s2, s3]
              refine tk 14 132 (.string (b ++ bT o.v4 ++ bT o.v6 ++ bB o.bits)) ?_ (hv := by (intro V hV; clear hV; go_simp; (try first | rfl | omega)))
              try simp only [s1, s2, s3]
              refine tk 18 136 (.string (b ++ bT o.v4 ++ bT o.v6 ++ bB o.bits ++ bT o.sel)) ?_ (hv := by (intro V hV; clear hV; go_simp; (try first | rfl | omega)))
              try simp only [s1, s2, s3]
              refine tk 19 3 (.string (b ++ bT o.v4 ++ bT o.v6 ++ bB o.bits ++ bT o.sel)) ?_ (hv := by (intro V hV; clear hV; go_simp; (try first | rfl | omega)))
              try simp only [s1, s2, s3]
              refine wpAnyH_done (by kernel_rfl) ?_ _
              have HE := Lib.hid hHeld
              repeat clear hHeld
              clear hS0
              go_wp2
              go_ret
              refine ⟨ret_bytes ?_, B1.out.trans (belowLe B1.out.size HE.out.b)⟩
              rw [enc_ob o HF.out.kind]
              simp only [BL_append, BL_bT, BL_bB, BL_ofBL, HH.out]
              rw [show eTail o = [o.v4, o.v6].flatMap eT ++ eB o.bits ++ eT o.sel by unfold eTail; rw [if_neg (by have := HK.out; omega), if_neg (by have := HK.out; omega), if_pos HK.out]]
              simp only [List.append_assoc, List.flatMap_cons, List.flatMap_nil, List.append_nil]
            exact AllReadyH.nil
          exact AllReadyH.nil
        refine AllReadyH.cons rfl (fun K hK => ?_) ?_
        · rw [if_pos (by rfl)]
          refine wp_build1 130 129 (o.bits) rfl rfl rfl ?_
          intro b7 v7 hc7 hb7
          refine hK.out _ _ (SB.next (by assumption) hb7) (fun hHeld => ?_)
          clear hK K
          have hHeld := SB.add hHeld hc7
          refine wpAnyH_str (S' := SB x (oc o f l c p i) w1 [(⟨b7, 0, none⟩, .int .u8 (o.bits))]) (fun V h => h.weak) _ _ _ _ ?_
          try simp only [Act.put, s1, s2, s3]
          refine tk 13 131 (.string (bB (o.bits))) ?_ (hv := by (intro V hV; have hc := conv1 (o.bits) V b7 (hV.l (⟨b7, 0, none⟩, .int .u8 (o.bits)) (by simp)); clear hV; go_simp; try rfl))
          try simp only [s1, s2, s3]
          refine wpAnyH_ready (rs := [7]) (by kernel_rfl) (by simp) ?_
          refine AllReadyH.cons rfl (fun K hK => ?_) ?_
          · rw [if_pos (by rfl)]
            go_simp
            go_at_call 59
            refine (rtext_any o.v6 HF.out.v6 _).mono ?_
            rintro e v8 ⟨rfl, hb8⟩
            dsimp only
            refine hK.out _ _ (SB.next (by assumption) hb8) (fun hHeld => ?_)
            clear hK K
            try simp only [Act.put, s1, s2, s3]
            refine tk 8 126 (.string (b ++ bT o.v4 ++ bT o.v6)) ?_ (hv := by (intro V hV; clear hV; go_simp; (try first | rfl | omega)))
            try simp only [s1, s2, s3]
            refine tk 14 132 (.string (b ++ bT o.v4 ++ bT o.v6 ++ bB o.bits)) ?_ (hv := by (intro V hV; clear hV; go_simp; (try first | rfl | omega)))
            try simp only [s1, s2, s3]
            refine wpAnyH_ready (rs := [17]) (by kernel_rfl) (by simp) ?_
            refine AllReadyH.cons rfl (fun K hK => ?_) ?_
            · rw [if_pos (by rfl)]
              go_simp
              go_at_call 59
              refine (rtext_any o.sel HF.out.sel _).mono ?_
              rintro e v9 ⟨rfl, hb9⟩
              dsimp only
              refine hK.out _ _ (SB.next (by assumption) hb9) (fun hHeld => ?_)
              clear hK K
              try simp only [Act.put, s1, s2, s3]
              refine tk 18 136 (.string (b ++ bT o.v4 ++ bT o.v6 ++ bB o.bits ++ bT o.sel)) ?_ (hv := by (intro V hV; clear hV; go_simp; (try first | rfl | omega)))
              try simp only [s1, s2, s3]
              refine tk 19 3 (.string (b ++ bT o.v4 ++ bT o.v6 ++ bB o.bits ++ bT o.sel)) ?_ (hv := by (intro V hV; clear hV; go_simp; (try first | rfl | omega)))
              try simp only [s1, s2, s3]
              refine wpAnyH_done (by kernel_rfl) ?_ _
              have HE := Lib.hid hHeld
              repeat clear hHeld
              clear hS0
              go_wp2
              go_ret
              refine ⟨ret_bytes ?_, B1.out.trans (belowLe B1.out.size HE.out.b)⟩
              rw [enc_ob o HF.out.kind]
              simp only [BL_append, BL_bT, BL_bB, BL_ofBL, HH.out]
              rw [show eTail o = [o.v4, o.v6].flatMap eT ++ eB o.bits ++ eT o.sel by unfold eTail; rw [if_neg (by have := HK.out; omega), if_neg (by have := HK.out; omega), if_pos HK.out]]
              simp only [List.append_assoc, List.flatMap_cons, List.flatMap_nil, List.append_nil]
            exact AllReadyH.nil
          exact AllReadyH.nil
        exact AllReadyH.nil
      refine AllReadyH.cons rfl (fun K hK => ?_) ?_
      · rw [if_pos (by rfl)]
        refine wp_build1 130 129 (o.bits) rfl rfl rfl ?_
        intro b10 v10 hc10 hb10
        refine hK.out _ _ (SB.next (by assumption) hb10) (fun hHeld => ?_)
        clear hK K
        have hHeld := SB.add hHeld hc10
        refine wpAnyH_str (S' := SB x (oc o f l c p i) w1 [(⟨b10, 0, none⟩, .int .u8 (o.bits))]) (fun V h => h.weak) _ _ _ _ ?_
        try simp only [Act.put, s1, s2, s3]
        refine tk 13 131 (.string (bB (o.bits))) ?_ (hv := by (intro V hV; have hc := conv1 (o.bits) V b10 (hV.l (⟨b10, 0, none⟩, .int .u8 (o.bits)) (by simp)); clear hV; go_simp; try rfl))
        try simp only [s1, s2, s3]
        refine wpAnyH_ready (rs := [3]) (by kernel_rfl) (by simp) ?_
        refine AllReadyH.cons rfl (fun K hK => ?_) ?_
        · rw [if_pos (by rfl)]
          go_simp
          go_at_call 59
          refine (rtext_any o.v4 HF.out.v4 _).mono ?_
          rintro e v11 ⟨rfl, hb11⟩
          dsimp only
          refine hK.out _ _ (SB.next (by assumption) hb11) (fun hHeld => ?_)
          clear hK K
          try simp only [Act.put, s1, s2, s3]
          refine tk 4 122 (.string (b ++ bT o.v4)) ?_ (hv := by (intro V hV; clear hV; go_simp; (try first | rfl | omega)))
          try simp only [s1, s2, s3]
          refine wpAnyH_ready (rs := [7]) (by kernel_rfl) (by simp) ?_
          refine AllReadyH.cons rfl (fun K hK => ?_) ?_
          · rw [if_pos (by rfl)]
            go_simp
            go_at_call 59
            refine (rtext_any o.v6 HF.out.v6 _).mono ?_
            rintro e v12 ⟨rfl, hb12⟩
            dsimp only
            refine hK.out _ _ (SB.next (by assumption) hb12) (fun hHeld => ?_)
            clear hK K
            try simp only [Act.put, s1, s2, s3]
            refine tk 8 126 (.string (b ++ bT o.v4 ++ bT o.v6)) ?_ (hv := by (intro V hV; clear hV; go_simp; (try first | rfl | omega)))
            try simp only [s1, s2, s3]
            refine tk 14 132 (.string (b ++ bT o.v4 ++ bT o.v6 ++ bB o.bits)) ?_ (hv := by (intro V hV; clear hV; go_simp; (try first | rfl | omega)))
            try simp only [s1, s2, s3]
            refine wpAnyH_ready (rs := [17]) (by kernel_rfl) (by simp) ?_
            refine AllReadyH.cons rfl (fun K hK => ?_) ?_
            · rw [if_pos (by rfl)]
              go_simp
              go_at_call 59
              refine (rtext_any o.sel HF.out.sel _).mono ?_
              rintro e v13 ⟨rfl, hb13⟩
              dsimp only
              refine hK.out _ _ (SB.next (by assumption) hb13) (fun hHeld => ?_)
              clear hK K
              try simp only [Act.put, s1, s2, s3]
              refine tk 18 136 (.string (b ++ bT o.v4 ++ bT o.v6 ++ bB o.bits ++ bT o.sel)) ?_ (hv := by (intro V hV; clear hV; go_simp; (try first | rfl | omega)))
              try simp only [s1, s2, s3]
              refine tk 19 3 (.string (b ++ bT o.v4 ++ bT o.v6 ++ bB o.bits ++ bT o.sel)) ?_ (hv := by (intro V hV; clear hV; go_simp; (try first | rfl | omega)))
              try simp only [s1, s2, s3]
              refine wpAnyH_done (by kernel_rfl) ?_ _
              have HE := Lib.hid hHeld
              repeat clear hHeld
              clear hS0
              go_wp2
              go_ret
              refine ⟨ret_bytes ?_, B1.out.trans (belowLe B1.out.size HE.out.b)⟩
              rw [enc_ob o HF.out.kind]
              simp only [BL_append, BL_bT, BL_bB, BL_ofBL, HH.out]
              rw [show eTail o = [o.v4, o.v6].flatMap eT ++ eB o.bits ++ eT o.sel by unfold eTail; rw [if_neg (by have := HK.out; omega), if_neg (by have := HK.out; omega), if_pos HK.out]]
              simp only [List.append_assoc, List.flatMap_cons, List.flatMap_nil, List.append_nil]
            exact AllReadyH.nil
          exact AllReadyH.nil
        exact AllReadyH.nil
      exact AllReadyH.nil
set_option maxRecDepth 100000 in
set_option maxHeartbeats 16000000 in
theorem rbytes_4 (o : Ob) (f l c p i : Sl) (hf : Fits o) (hk : o.kind = 4) (w : World) (hr : RowsR w o f l c p i) :
    Calls Try.prog 48 #[.agg (oc o f l c p i)] w fun e w' => e = .returned (.string (bytesS o)) ∧ Below w.heap.size w w' := by
  have kk1 : (o.kind == 1) = false := by rw [hk]; rfl
  have kk2 : (o.kind == 2) = false := by rw [hk]; rfl
  have kk3 : (o.kind == 3) = false := by rw [hk]; rfl
  have kk4 : (o.kind == 4) = true := by rw [hk]; rfl
  have HK := Lib.hid hk
  clear hk
  obtain ⟨w1, hw1, b1, p1⟩ := box_one w (oc o f l c p i) 32
  obtain ⟨x, hx⟩ : ∃ x, x = w.heap.size := ⟨_, rfl⟩
  have lw := (Array.getElem?_eq_some_iff.1 p1).1
  rw [← hx] at p1 lw
  have ka0 : ∀ V : World, V.heap[x]? = some (.cells (oc o f l c p i) 32 (0, 0)) → V.cell? ⟨x, 0, none⟩ = some (.int .i64 o.kind) := fun V hV => by simp [World.cell?, hV, oc]
  have ka1 : ∀ V : World, V.heap[x]? = some (.cells (oc o f l c p i) 32 (0, 0)) → V.cell? ⟨x, 1, none⟩ = some (.string o.name) := fun V hV => by simp [World.cell?, hV, oc]
  have ka2 : ∀ V : World, V.heap[x]? = some (.cells (oc o f l c p i) 32 (0, 0)) → V.cell? ⟨x, 2, none⟩ = some (.int .i64 o.uid) := fun V hV => by simp [World.cell?, hV, oc]
  have ka3 : ∀ V : World, V.heap[x]? = some (.cells (oc o f l c p i) 32 (0, 0)) → V.cell? ⟨x, 3, none⟩ = some (.int .i64 o.version) := fun V hV => by simp [World.cell?, hV, oc]
  have ka4 : ∀ V : World, V.heap[x]? = some (.cells (oc o f l c p i) 32 (0, 0)) → V.cell? ⟨x, 4, none⟩ = some (.bool o.deleting) := fun V hV => by simp [World.cell?, hV, oc]
  have ka5 : ∀ V : World, V.heap[x]? = some (.cells (oc o f l c p i) 32 (0, 0)) → V.cell? ⟨x, 5, none⟩ = some (.slice f.A o.fins.length f.c) := fun V hV => by simp [World.cell?, hV, oc]
  have ka6 : ∀ V : World, V.heap[x]? = some (.cells (oc o f l c p i) 32 (0, 0)) → V.cell? ⟨x, 6, none⟩ = some (.slice l.A o.labels.length l.c) := fun V hV => by simp [World.cell?, hV, oc]
  have ka7 : ∀ V : World, V.heap[x]? = some (.cells (oc o f l c p i) 32 (0, 0)) → V.cell? ⟨x, 7, none⟩ = some (.slice c.A o.cidrs.length c.c) := fun V hV => by simp [World.cell?, hV, oc]
  have ka8 : ∀ V : World, V.heap[x]? = some (.cells (oc o f l c p i) 32 (0, 0)) → V.cell? ⟨x, 8, none⟩ = some (.string o.status) := fun V hV => by simp [World.cell?, hV, oc]
  have ka9 : ∀ V : World, V.heap[x]? = some (.cells (oc o f l c p i) 32 (0, 0)) → V.cell? ⟨x, 9, none⟩ = some (.int .i64 o.type) := fun V hV => by simp [World.cell?, hV, oc]
  have ka10 : ∀ V : World, V.heap[x]? = some (.cells (oc o f l c p i) 32 (0, 0)) → V.cell? ⟨x, 10, none⟩ = some (.int .i64 o.policy) := fun V hV => by simp [World.cell?, hV, oc]
  have ka11 : ∀ V : World, V.heap[x]? = some (.cells (oc o f l c p i) 32 (0, 0)) → V.cell? ⟨x, 11, none⟩ = some (.slice p.A o.fams.length p.c) := fun V hV => by simp [World.cell?, hV, oc]
  have ka12 : ∀ V : World, V.heap[x]? = some (.cells (oc o f l c p i) 32 (0, 0)) → V.cell? ⟨x, 12, none⟩ = some (.slice i.A o.ips.length i.c) := fun V hV => by simp [World.cell?, hV, oc]
  have ka13 : ∀ V : World, V.heap[x]? = some (.cells (oc o f l c p i) 32 (0, 0)) → V.cell? ⟨x, 13, none⟩ = some (.string o.v4) := fun V hV => by simp [World.cell?, hV, oc]
  have ka14 : ∀ V : World, V.heap[x]? = some (.cells (oc o f l c p i) 32 (0, 0)) → V.cell? ⟨x, 14, none⟩ = some (.string o.v6) := fun V hV => by simp [World.cell?, hV, oc]
  have ka15 : ∀ V : World, V.heap[x]? = some (.cells (oc o f l c p i) 32 (0, 0)) → V.cell? ⟨x, 15, none⟩ = some (.int .i64 o.bits) := fun V hV => by simp [World.cell?, hV, oc]
  have ka16 : ∀ V : World, V.heap[x]? = some (.cells (oc o f l c p i) 32 (0, 0)) → V.cell? ⟨x, 16, none⟩ = some (.string o.sel) := fun V hV => by simp [World.cell?, hV, oc]
  have ka17 : ∀ V : World, V.heap[x]? = some (.cells (oc o f l c p i) 32 (0, 0)) → V.cell? ⟨x, 17, none⟩ = some (.string o.about) := fun V hV => by simp [World.cell?, hV, oc]
  have ka18 : ∀ V : World, V.heap[x]? = some (.cells (oc o f l c p i) 32 (0, 0)) → V.cell? ⟨x, 18, none⟩ = some (.string o.reason) := fun V hV => by simp [World.cell?, hV, oc]
  have sb1 : SB x (oc o f l c p i) w1 [] w1 := ⟨p1, Below.refl _ _, by simp, lw⟩
  have R1 := Lib.hid (hr.below b1)
  have HF := Lib.hid hf
  have SB1 := Lib.hid sb1
  have HW := Lib.hid hw1
  have B1 := Lib.hid b1
  have k1 := hf.kind.1
  have k2 := hf.kind.2
  have wk := u8w (n := o.kind) (by omega) (by omega)
  have wl := u8w (n := (o.labels.length : Int)) (by omega) (by have := hf.labels.1; omega)
  have z0 : (bB o.kind).size = 1 := bB_size _
  have z1 : (bT o.name).size ≤ 201 := by rw [bT_size]; have := hf.name; omega
  have z2 : (num8 o.uid.toNat).size = 8 := num8_size _
  have z3 : (num8 o.version.toNat).size = 8 := num8_size _
  have y1 : (rb1 o).size ≤ 300 := rb1_size o hf.name
  have y2 : (rb2 o).size ≤ 301 := rb2_size o hf.name
  have y3 : (rb3 o).size ≤ 8600 := rb3_size o hf.name hf.fins.1 hf.fins.2
  have y4 : (bTs o.fins).size ≤ 8100 := bTs_size _ hf.fins.1 hf.fins.2
  have y5 : (bB (o.labels.length : Int)).size = 1 := bB_size _
  have s5 : (bB o.kind ++ bT o.name).size ≤ 202 := by rw [ByteArray.size_append]; omega
  have s6 : (bB o.kind ++ bT o.name ++ num8 o.uid.toNat).size ≤ 210 := by rw [ByteArray.size_append, ByteArray.size_append]; omega
  have s7 : (rb2 o ++ bTs o.fins).size ≤ 8500 := by rw [ByteArray.size_append]; omega
  clear sb1 hr hf hw1 b1 p1 lw
  go_enter Try.func48, Try.ntmps48
  go_upto_region 1 with (fail)
  rw [← HW.out, ← hx]
  clear hx
  go_cut [3] from 6 to 22 (fun v w' => v = .string (rb1 o) ∧ Hid (SB x (oc o f l c p i) w1 [] w'))
  case first =>
    refine wp_region_held_drew (S := SB x (oc o f l c p i) w1 []) (by kernel_rfl) SB1.out.drew (fun hS0 => ?_)
    refine tk 0 6 (.pointer (some ⟨x, 0, none⟩)) ?_
    try simp only [s1, s2, s3]
    refine tk 1 7 (.int .i64 o.kind) ?_ (hv := by (intro V hV; have hc := ka0 V hV.is; clear hV; go_simp; try rfl))
    try simp only [s1, s2, s3]
    refine tk 2 8 (.int .u8 (o.kind)) ?_
    try simp only [s1, s2, s3]
    refine tk 5 11 (.pointer (some ⟨x, 1, none⟩)) ?_
    try simp only [s1, s2, s3]
    refine tk 6 12 (.string o.name) ?_ (hv := by (intro V hV; have hc := ka1 V hV.is; clear hV; go_simp; try rfl))
    try simp only [s1, s2, s3]
    refine tk 9 15 (.pointer (some ⟨x, 2, none⟩)) ?_
    try simp only [s1, s2, s3]
    refine tk 10 16 (.int .i64 o.uid) ?_ (hv := by (intro V hV; have hc := ka2 V hV.is; clear hV; go_simp; try rfl))
    try simp only [s1, s2, s3]
    refine tk 13 19 (.pointer (some ⟨x, 3, none⟩)) ?_
    try simp only [s1, s2, s3]
    refine tk 14 20 (.int .i64 o.version) ?_ (hv := by (intro V hV; have hc := ka3 V hV.is; clear hV; go_simp; try rfl))
    try simp only [s1, s2, s3]
    refine wpAnyH_ready (rs := [3, 7]) (by kernel_rfl) (by simp) ?_
    refine AllReadyH.cons rfl (fun K hK => ?_) ?_
    · rw [if_pos (by rfl)]
      refine wp_build1 9 8 (o.kind) rfl rfl rfl ?_
      intro b1 v1 hc1 hb1
      refine hK.out _ _ (SB.next (by assumption) hb1) (fun hHeld => ?_)
      clear hK K
      have hHeld := SB.add hHeld hc1
      refine wpAnyH_str (S' := SB x (oc o f l c p i) w1 [(⟨b1, 0, none⟩, .int .u8 (o.kind))]) (fun V h => h.weak) _ _ _ _ ?_
      try simp only [Act.put, s1, s2, s3]
      refine tk 4 10 (.string (bB (o.kind))) ?_ (hv := by (intro V hV; have hc := conv1 (o.kind) V b1 (hV.l (⟨b1, 0, none⟩, .int .u8 (o.kind)) (by simp)); clear hV; go_simp; try rfl))
      try simp only [s1, s2, s3]
      refine wpAnyH_ready (rs := [7]) (by kernel_rfl) (by simp) ?_
      refine AllReadyH.cons rfl (fun K hK => ?_) ?_
      · rw [if_pos (by rfl)]
        go_simp
        go_at_call 59
        refine (rtext_any o.name HF.out.name _).mono ?_
        rintro e v2 ⟨rfl, hb2⟩
        dsimp only
        refine hK.out _ _ (SB.next (by assumption) hb2) (fun hHeld => ?_)
        clear hK K
        try simp only [Act.put, s1, s2, s3]
        refine tk 8 14 (.string (bB o.kind ++ bT o.name)) ?_ (hv := by (intro V hV; clear hV; go_simp; (try first | rfl | omega)))
        try simp only [s1, s2, s3]
        refine wpAnyH_ready (rs := [11]) (by kernel_rfl) (by simp) ?_
        refine AllReadyH.cons rfl (fun K hK => ?_) ?_
        · rw [if_pos (by rfl)]
          go_simp
          go_at_call 14
          refine (rnumI_any o.uid HF.out.uid.1 HF.out.uid.2 _).mono ?_
          rintro e v3 ⟨rfl, hb3⟩
          dsimp only
          refine hK.out _ _ (SB.next (by assumption) hb3) (fun hHeld => ?_)
          clear hK K
          try simp only [Act.put, s1, s2, s3]
          refine tk 12 18 (.string (bB o.kind ++ bT o.name ++ num8 o.uid.toNat)) ?_ (hv := by (intro V hV; clear hV; go_simp; (try first | rfl | omega)))
          try simp only [s1, s2, s3]
          refine wpAnyH_ready (rs := [15]) (by kernel_rfl) (by simp) ?_
          refine AllReadyH.cons rfl (fun K hK => ?_) ?_
          · rw [if_pos (by rfl)]
            go_simp
            go_at_call 14
            refine (rnumI_any o.version HF.out.version.1 HF.out.version.2 _).mono ?_
            rintro e v4 ⟨rfl, hb4⟩
            dsimp only
            refine hK.out _ _ (SB.next (by assumption) hb4) (fun hHeld => ?_)
            clear hK K
            try simp only [Act.put, s1, s2, s3]
            refine tk 16 22 (.string (bB o.kind ++ bT o.name ++ num8 o.uid.toNat ++ num8 o.version.toNat)) ?_ (hv := by (intro V hV; clear hV; go_simp; (try first | rfl | omega)))
            try simp only [s1, s2, s3]
            refine tk 17 3 (.string (bB o.kind ++ bT o.name ++ num8 o.uid.toNat ++ num8 o.version.toNat)) ?_
            try simp only [s1, s2, s3]
            refine wpAnyH_done (by kernel_rfl) ?_ _
            have HE := Lib.hid hHeld
            repeat clear hHeld
            go_wp2
            go_meet
            case rel => exact ⟨rfl, Lib.hid HE.out.nil⟩
          exact AllReadyH.nil
        exact AllReadyH.nil
      exact AllReadyH.nil
    refine AllReadyH.cons rfl (fun K hK => ?_) ?_
    · rw [if_pos (by rfl)]
      go_simp
      go_at_call 59
      refine (rtext_any o.name HF.out.name _).mono ?_
      rintro e v5 ⟨rfl, hb5⟩
      dsimp only
      refine hK.out _ _ (SB.next (by assumption) hb5) (fun hHeld => ?_)
      clear hK K
      try simp only [Act.put, s1, s2, s3]
      refine wpAnyH_ready (rs := [3, 11]) (by kernel_rfl) (by simp) ?_
      refine AllReadyH.cons rfl (fun K hK => ?_) ?_
      · rw [if_pos (by rfl)]
        refine wp_build1 9 8 (o.kind) rfl rfl rfl ?_
        intro b6 v6 hc6 hb6
        refine hK.out _ _ (SB.next (by assumption) hb6) (fun hHeld => ?_)
        clear hK K
        have hHeld := SB.add hHeld hc6
        refine wpAnyH_str (S' := SB x (oc o f l c p i) w1 [(⟨b6, 0, none⟩, .int .u8 (o.kind))]) (fun V h => h.weak) _ _ _ _ ?_
        try simp only [Act.put, s1, s2, s3]
        refine tk 4 10 (.string (bB (o.kind))) ?_ (hv := by (intro V hV; have hc := conv1 (o.kind) V b6 (hV.l (⟨b6, 0, none⟩, .int .u8 (o.kind)) (by simp)); clear hV; go_simp; try rfl))
        try simp only [s1, s2, s3]
        refine tk 8 14 (.string (bB o.kind ++ bT o.name)) ?_ (hv := by (intro V hV; clear hV; go_simp; (try first | rfl | omega)))
        try simp only [s1, s2, s3]
        refine wpAnyH_ready (rs := [11]) (by kernel_rfl) (by simp) ?_
        refine AllReadyH.cons rfl (fun K hK => ?_) ?_
        · rw [if_pos (by rfl)]
          go_simp
          go_at_call 14
          refine (rnumI_any o.uid HF.out.uid.1 HF.out.uid.2 _).mono ?_
          rintro e v7 ⟨rfl, hb7⟩
          dsimp only
          refine hK.out _ _ (SB.next (by assumption) hb7) (fun hHeld => ?_)
          clear hK K
          try simp only [Act.put, s1, s2, s3]
          refine tk 12 18 (.string (bB o.kind ++ bT o.name ++ num8 o.uid.toNat)) ?_ (hv := by (intro V hV; clear hV; go_simp; (try first | rfl | omega)))
          try simp only [s1, s2, s3]
          refine wpAnyH_ready (rs := [15]) (by kernel_rfl) (by simp) ?_
          refine AllReadyH.cons rfl (fun K hK => ?_) ?_
          · rw [if_pos (by rfl)]
            go_simp
            go_at_call 14
            refine (rnumI_any o.version HF.out.version.1 HF.out.version.2 _).mono ?_
            rintro e v8 ⟨rfl, hb8⟩
            dsimp only
            refine hK.out _ _ (SB.next (by assumption) hb8) (fun hHeld => ?_)
            clear hK K
            try simp only [Act.put, s1, s2, s3]
            refine tk 16 22 (.string (bB o.kind ++ bT o.name ++ num8 o.uid.toNat ++ num8 o.version.toNat)) ?_ (hv := by (intro V hV; clear hV; go_simp; (try first | rfl | omega)))
            try simp only [s1, s2, s3]
            refine tk 17 3 (.string (bB o.kind ++ bT o.name ++ num8 o.uid.toNat ++ num8 o.version.toNat)) ?_
            try simp only [s1, s2, s3]
            refine wpAnyH_done (by kernel_rfl) ?_ _
            have HE := Lib.hid hHeld
            repeat clear hHeld
            go_wp2
            go_meet
            case rel => exact ⟨rfl, Lib.hid HE.out.nil⟩
          exact AllReadyH.nil
        exact AllReadyH.nil
      refine AllReadyH.cons rfl (fun K hK => ?_) ?_
      · rw [if_pos (by rfl)]
        go_simp
        go_at_call 14
        refine (rnumI_any o.uid HF.out.uid.1 HF.out.uid.2 _).mono ?_
        rintro e v9 ⟨rfl, hb9⟩
        dsimp only
        refine hK.out _ _ (SB.next (by assumption) hb9) (fun hHeld => ?_)
        clear hK K
        try simp only [Act.put, s1, s2, s3]
        refine wpAnyH_ready (rs := [3, 15]) (by kernel_rfl) (by simp) ?_
        refine AllReadyH.cons rfl (fun K hK => ?_) ?_
        · rw [if_pos (by rfl)]
          refine wp_build1 9 8 (o.kind) rfl rfl rfl ?_
          intro b10 v10 hc10 hb10
          refine hK.out _ _ (SB.next (by assumption) hb10) (fun hHeld => ?_)
          clear hK K
          have hHeld := SB.add hHeld hc10
          refine wpAnyH_str (S' := SB x (oc o f l c p i) w1 [(⟨b10, 0, none⟩, .int .u8 (o.kind))]) (fun V h => h.weak) _ _ _ _ ?_
          try simp only [Act.put, s1, s2, s3]
          refine tk 4 10 (.string (bB (o.kind))) ?_ (hv := by (intro V hV; have hc := conv1 (o.kind) V b10 (hV.l (⟨b10, 0, none⟩, .int .u8 (o.kind)) (by simp)); clear hV; go_simp; try rfl))
          try simp only [s1, s2, s3]
          refine tk 8 14 (.string (bB o.kind ++ bT o.name)) ?_ (hv := by (intro V hV; clear hV; go_simp; (try first | rfl | omega)))
          try simp only [s1, s2, s3]
          refine tk 12 18 (.string (bB o.kind ++ bT o.name ++ num8 o.uid.toNat)) ?_ (hv := by (intro V hV; clear hV; go_simp; (try first | rfl | omega)))
          try simp only [s1, s2, s3]
          refine wpAnyH_ready (rs := [15]) (by kernel_rfl) (by simp) ?_
          refine AllReadyH.cons rfl (fun K hK => ?_) ?_
          · rw [if_pos (by rfl)]
            go_simp
            go_at_call 14
            refine (rnumI_any o.version HF.out.version.1 HF.out.version.2 _).mono ?_
            rintro e v11 ⟨rfl, hb11⟩
            dsimp only
            refine hK.out _ _ (SB.next (by assumption) hb11) (fun hHeld => ?_)
            clear hK K
            try simp only [Act.put, s1, s2, s3]
            refine tk 16 22 (.string (bB o.kind ++ bT o.name ++ num8 o.uid.toNat ++ num8 o.version.toNat)) ?_ (hv := by (intro V hV; clear hV; go_simp; (try first | rfl | omega)))
            try simp only [s1, s2, s3]
            refine tk 17 3 (.string (bB o.kind ++ bT o.name ++ num8 o.uid.toNat ++ num8 o.version.toNat)) ?_
            try simp only [s1, s2, s3]
            refine wpAnyH_done (by kernel_rfl) ?_ _
            have HE := Lib.hid hHeld
            repeat clear hHeld
            go_wp2
            go_meet
            case rel => exact ⟨rfl, Lib.hid HE.out.nil⟩
          exact AllReadyH.nil
        refine AllReadyH.cons rfl (fun K hK => ?_) ?_
        · rw [if_pos (by rfl)]
          go_simp
          go_at_call 14
          refine (rnumI_any o.version HF.out.version.1 HF.out.version.2 _).mono ?_
          rintro e v12 ⟨rfl, hb12⟩
          dsimp only
          refine hK.out _ _ (SB.next (by assumption) hb12) (fun hHeld => ?_)
          clear hK K
          try simp only [Act.put, s1, s2, s3]
          refine wpAnyH_ready (rs := [3]) (by kernel_rfl) (by simp) ?_
          refine AllReadyH.cons rfl (fun K hK => ?_) ?_
          · rw [if_pos (by rfl)]
            refine wp_build1 9 8 (o.kind) rfl rfl rfl ?_
            intro b13 v13 hc13 hb13
            refine hK.out _ _ (SB.next (by assumption) hb13) (fun hHeld => ?_)
            clear hK K
            have hHeld := SB.add hHeld hc13
            refine wpAnyH_str (S' := SB x (oc o f l c p i) w1 [(⟨b13, 0, none⟩, .int .u8 (o.kind))]) (fun V h => h.weak) _ _ _ _ ?_
            try simp only [Act.put, s1, s2, s3]
            refine tk 4 10 (.string (bB (o.kind))) ?_ (hv := by (intro V hV; have hc := conv1 (o.kind) V b13 (hV.l (⟨b13, 0, none⟩, .int .u8 (o.kind)) (by simp)); clear hV; go_simp; try rfl))
            try simp only [s1, s2, s3]
            refine tk 8 14 (.string (bB o.kind ++ bT o.name)) ?_ (hv := by (intro V hV; clear hV; go_simp; (try first | rfl | omega)))
            try simp only [s1, s2, s3]
            refine tk 12 18 (.string (bB o.kind ++ bT o.name ++ num8 o.uid.toNat)) ?_ (hv := by (intro V hV; clear hV; go_simp; (try first | rfl | omega)))
            try simp only [s1, s2, s3]
            refine tk 16 22 (.string (bB o.kind ++ bT o.name ++ num8 o.uid.toNat ++ num8 o.version.toNat)) ?_ (hv := by (intro V hV; clear hV; go_simp; (try first | rfl | omega)))
            try simp only [s1, s2, s3]
            refine tk 17 3 (.string (bB o.kind ++ bT o.name ++ num8 o.uid.toNat ++ num8 o.version.toNat)) ?_
            try simp only [s1, s2, s3]
            refine wpAnyH_done (by kernel_rfl) ?_ _
            have HE := Lib.hid hHeld
            repeat clear hHeld
            go_wp2
            go_meet
            case rel => exact ⟨rfl, Lib.hid HE.out.nil⟩
          exact AllReadyH.nil
        exact AllReadyH.nil
      exact AllReadyH.nil
    exact AllReadyH.nil
  obtain ⟨rfl, HB⟩ := hcut
  clear z0 z1 z2 z3 s5 s6 wk
  have kd := ka4 _ HB.out.is
  go_upto_if 24 with (fail)
  clear kd
  go_cut [3] from 23 to 28 (fun v w' => v = .string (rb2 o) ∧ w' = wc)
  case first =>
    cases hd : o.deleting
    · have e2 : rb2 o = rb1 o ++ (⟨#[0]⟩ : ByteArray) := by unfold rb2; rw [hd]; rfl
      have E2 := Lib.hid e2
      have q1 : (⟨#[0]⟩ : ByteArray).size = 1 := rfl
      clear e2
      go_wp2
      go_meet
      case rel => exact ⟨by rw [E2.out], rfl⟩
    · have e2 : rb2 o = rb1 o ++ (⟨#[1]⟩ : ByteArray) := by unfold rb2; rw [hd]; rfl
      have E2 := Lib.hid e2
      have q1 : (⟨#[1]⟩ : ByteArray).size = 1 := rfl
      clear e2
      go_wp2
      go_meet
      case rel => exact ⟨by rw [E2.out], rfl⟩
  obtain ⟨rfl, hwc⟩ := hcut
  subst hwc
  clear y1
  go_upto_region 5 with (fail)
  go_cut [3] from 29 to 40 (fun v w' => v = .string (rb3 o) ∧ Hid (SB x (oc o f l c p i) w1 [] w'))
  case first =>
    refine wp_region_held_drew (S := SB x (oc o f l c p i) w1 []) (by kernel_rfl) HB.out.drew (fun hS0 => ?_)
    refine tk 0 29 (.string (rb2 o)) ?_
    try simp only [s1, s2, s3]
    refine tk 1 30 (.pointer (some ⟨x, 5, none⟩)) ?_
    try simp only [s1, s2, s3]
    refine tk 2 31 (.slice f.A o.fins.length f.c) ?_ (hv := by (intro V hV; have hc := ka5 V hV.is; clear hV; go_simp; try rfl))
    try simp only [s1, s2, s3]
    refine tk 5 34 (.pointer (some ⟨x, 6, none⟩)) ?_
    try simp only [s1, s2, s3]
    refine tk 6 35 (.slice l.A o.labels.length l.c) ?_ (hv := by (intro V hV; have hc := ka6 V hV.is; clear hV; go_simp; try rfl))
    try simp only [s1, s2, s3]
    refine tk 7 36 (.int .i64 (o.labels.length : Nat)) ?_
    try simp only [s1, s2, s3]
    refine tk 8 37 (.int .u8 ((o.labels.length : Nat))) ?_
    try simp only [s1, s2, s3]
    refine wpAnyH_ready (rs := [3, 9]) (by kernel_rfl) (by simp) ?_
    refine AllReadyH.cons rfl (fun K hK => ?_) ?_
    · rw [if_pos (by rfl)]
      go_simp
      go_at_call 83
      refine (rtextsB_any o.fins f.A f.c (by have := HF.out.fins.1; omega) HF.out.fins.2 _ (R1.out.below (SB.b ‹_›)).fr).mono ?_
      rintro e v1 ⟨rfl, hb1⟩
      dsimp only
      refine hK.out _ _ (SB.next (by assumption) hb1) (fun hHeld => ?_)
      clear hK K
      try simp only [Act.put, s1, s2, s3]
      refine tk 4 33 (.string (rb2 o ++ bTs o.fins)) ?_ (hv := by (intro V hV; clear hV; go_simp; (try first | rfl | omega)))
      try simp only [s1, s2, s3]
      refine wpAnyH_ready (rs := [9]) (by kernel_rfl) (by simp) ?_
      refine AllReadyH.cons rfl (fun K hK => ?_) ?_
      · rw [if_pos (by rfl)]
        refine wp_build1 38 37 ((o.labels.length : Int)) rfl rfl rfl ?_
        intro b2 v2 hc2 hb2
        refine hK.out _ _ (SB.next (by assumption) hb2) (fun hHeld => ?_)
        clear hK K
        have hHeld := SB.add hHeld hc2
        refine wpAnyH_str (S' := SB x (oc o f l c p i) w1 [(⟨b2, 0, none⟩, .int .u8 ((o.labels.length : Int)))]) (fun V h => h.weak) _ _ _ _ ?_
        try simp only [Act.put, s1, s2, s3]
        refine tk 10 39 (.string (bB ((o.labels.length : Int)))) ?_ (hv := by (intro V hV; have hc := conv1 ((o.labels.length : Int)) V b2 (hV.l (⟨b2, 0, none⟩, .int .u8 ((o.labels.length : Int))) (by simp)); clear hV; go_simp; try rfl))
        try simp only [s1, s2, s3]
        refine tk 11 40 (.string (rb2 o ++ bTs o.fins ++ bB (o.labels.length : Int))) ?_ (hv := by (intro V hV; clear hV; go_simp; (try first | rfl | omega)))
        try simp only [s1, s2, s3]
        refine tk 12 3 (.string (rb2 o ++ bTs o.fins ++ bB (o.labels.length : Int))) ?_ (hv := by (intro V hV; clear hV; go_simp; (try first | rfl | omega)))
        try simp only [s1, s2, s3]
        refine wpAnyH_done (by kernel_rfl) ?_ _
        have HE := Lib.hid hHeld
        repeat clear hHeld
        go_wp2
        go_meet
        case rel => exact ⟨rfl, Lib.hid HE.out.nil⟩
      exact AllReadyH.nil
    refine AllReadyH.cons rfl (fun K hK => ?_) ?_
    · rw [if_pos (by rfl)]
      refine wp_build1 38 37 ((o.labels.length : Int)) rfl rfl rfl ?_
      intro b3 v3 hc3 hb3
      refine hK.out _ _ (SB.next (by assumption) hb3) (fun hHeld => ?_)
      clear hK K
      have hHeld := SB.add hHeld hc3
      refine wpAnyH_str (S' := SB x (oc o f l c p i) w1 [(⟨b3, 0, none⟩, .int .u8 ((o.labels.length : Int)))]) (fun V h => h.weak) _ _ _ _ ?_
      try simp only [Act.put, s1, s2, s3]
      refine tk 10 39 (.string (bB ((o.labels.length : Int)))) ?_ (hv := by (intro V hV; have hc := conv1 ((o.labels.length : Int)) V b3 (hV.l (⟨b3, 0, none⟩, .int .u8 ((o.labels.length : Int))) (by simp)); clear hV; go_simp; try rfl))
      try simp only [s1, s2, s3]
      refine wpAnyH_ready (rs := [3]) (by kernel_rfl) (by simp) ?_
      refine AllReadyH.cons rfl (fun K hK => ?_) ?_
      · rw [if_pos (by rfl)]
        go_simp
        go_at_call 83
        refine (rtextsB_any o.fins f.A f.c (by have := HF.out.fins.1; omega) HF.out.fins.2 _ (R1.out.below (SB.b ‹_›)).fr).mono ?_
        rintro e v4 ⟨rfl, hb4⟩
        dsimp only
        refine hK.out _ _ (SB.next (by assumption) hb4) (fun hHeld => ?_)
        clear hK K
        try simp only [Act.put, s1, s2, s3]
        refine tk 4 33 (.string (rb2 o ++ bTs o.fins)) ?_ (hv := by (intro V hV; clear hV; go_simp; (try first | rfl | omega)))
        try simp only [s1, s2, s3]
        refine tk 11 40 (.string (rb2 o ++ bTs o.fins ++ bB (o.labels.length : Int))) ?_ (hv := by (intro V hV; clear hV; go_simp; (try first | rfl | omega)))
        try simp only [s1, s2, s3]
        refine tk 12 3 (.string (rb2 o ++ bTs o.fins ++ bB (o.labels.length : Int))) ?_ (hv := by (intro V hV; clear hV; go_simp; (try first | rfl | omega)))
        try simp only [s1, s2, s3]
        refine wpAnyH_done (by kernel_rfl) ?_ _
        have HE := Lib.hid hHeld
        repeat clear hHeld
        go_wp2
        go_meet
        case rel => exact ⟨rfl, Lib.hid HE.out.nil⟩
      exact AllReadyH.nil
    exact AllReadyH.nil
  obtain ⟨rfl, HB5⟩ := hcut
  clear HB y2 y4 y5 s7 wl
  go_wp2
  go_loopw [3, 4] (fun s j wr => ∃ (k : Nat) (b : ByteArray), k ≤ o.labels.length ∧ j = .int .i64 k ∧ s = .string b ∧ b.size ≤ 8600 + 402 * k ∧ Hid (BL b = BL (rb3 o) ++ (o.labels.take k).flatMap eP ∧ SB x (oc o f l c p i) w1 [] wr)) (fun _ j _ => o.labels.length - (intOf j).toNat)
  case atStart => exact ⟨0, _, Nat.zero_le _, rfl, rfl, by omega, Lib.hid ⟨by simp, HB5.out⟩⟩
  case round =>
    obtain ⟨k, b, hk, rfl, rfl, hbz, H⟩ := hrel
    have l40 : (o.labels.length : Int) ≤ 40 := by have := HF.out.labels.1; omega
    have kx6 := ka6 _ H.out.2.is
    by_cases hkn : k < o.labels.length
    · obtain ⟨u, hu⟩ : ∃ u, o.labels[k]? = some u := ⟨_, List.getElem?_eq_getElem hkn⟩
      have hum := HF.out.labels.2 u (List.mem_of_getElem? hu)
      have h1 := flat_at cP 2 (fun _ => rfl) o.labels k u hu 0 (by omega)
      have h2 := flat_at cP 2 (fun _ => rfl) o.labels k u hu 1 (by omega)
      obtain ⟨ad, hA, c1⟩ := R1.out.lr _ _ h1
      obtain ⟨bd, hB, c2⟩ := R1.out.lr _ _ h2
      obtain rfl : ad = bd := by rw [hA] at hB; injection hB
      rw [← addadd] at c1 c2
      have c1' : w1.cell? (ad.add (k * 2)) = some (.string u.1) := by rw [addz] at c1; exact c1
      have c2' : w1.cell? ⟨(ad.add (k * 2)).block, (ad.add (k * 2)).off + 1, none⟩ = some (.string u.2) := c2
      have ke6 : ∀ V : World, V.heap[x]? = some (.cells (oc o f l c p i) 32 (0, 0)) → V.cell? ⟨x, 6, none⟩ = some (.slice (some ad) o.labels.length l.c) := fun V hV => by rw [← hA]; exact ka6 V hV
      have C1 := Lib.hid (fun (V : World) (h : Below w1.heap.size w1 V) => G.cell_below h c1')
      have C2 := Lib.hid (fun (V : World) (h : Below w1.heap.size w1 V) => G.cell_below h c2')
      have HU := Lib.hid hu
      have t1 : (bT u.1).size ≤ 201 := by rw [bT_size]; omega
      have t2 : (bT u.2).size ≤ 201 := by rw [bT_size]; omega
      have t3 : (b ++ bT u.1).size ≤ 8801 + 402 * k := by rw [ByteArray.size_append]; omega
      have hkl : (k : Int) < o.labels.length := by omega
      rw [hA] at kx6
      clear h1 h2 hA hB c1 c2 c1' c2' hu
      go_upto_region 9 with (fail)
      clear kx6
      refine wp_region_held_drew (S := SB x (oc o f l c p i) w1 []) (by kernel_rfl) H.out.2.drew (fun hS0 => ?_)
      refine tk 0 48 (.string b) ?_
      try simp only [s1, s2, s3]
      refine tk 1 49 (.pointer (some ⟨x, 6, none⟩)) ?_
      try simp only [s1, s2, s3]
      refine tk 2 50 (.slice (some ad) o.labels.length l.c) ?_ (hv := by (intro V hV; have hc := ke6 V hV.is; clear hV; go_simp; try rfl))
      try simp only [s1, s2, s3]
      refine tk 3 51 (.int .i64 (k : Nat)) ?_
      try simp only [s1, s2, s3]
      refine tk 4 52 (.pointer (some (ad.add (k * 2)))) ?_
      try simp only [s1, s2, s3]
      refine tk 5 53 (.pointer (some (ad.add (k * 2)))) ?_
      try simp only [s1, s2, s3]
      refine tk 6 54 (.string u.1) ?_ (hv := by (intro V hV; have hc := C1.out V hV.b; clear hV; go_simp; try rfl))
      try simp only [s1, s2, s3]
      refine tk 9 57 (.pointer (some ⟨x, 6, none⟩)) ?_
      try simp only [s1, s2, s3]
      refine tk 10 58 (.slice (some ad) o.labels.length l.c) ?_ (hv := by (intro V hV; have hc := ke6 V hV.is; clear hV; go_simp; try rfl))
      try simp only [s1, s2, s3]
      refine tk 11 59 (.int .i64 (k : Nat)) ?_
      try simp only [s1, s2, s3]
      refine tk 12 60 (.pointer (some (ad.add (k * 2)))) ?_
      try simp only [s1, s2, s3]
      refine tk 13 61 (.pointer (some ⟨(ad.add (k * 2)).block, (ad.add (k * 2)).off + 1, none⟩)) ?_
      try simp only [s1, s2, s3]
      refine tk 14 62 (.string u.2) ?_ (hv := by (intro V hV; have hc := C2.out V hV.b; clear hV; go_simp; try rfl))
      try simp only [s1, s2, s3]
      refine wpAnyH_ready (rs := [7]) (by kernel_rfl) (by simp) ?_
      refine AllReadyH.cons rfl (fun K hK => ?_) ?_
      · rw [if_pos (by rfl)]
        go_simp
        go_at_call 59
        refine (rtext_any u.1 hum.1 _).mono ?_
        rintro e v1 ⟨rfl, hb1⟩
        dsimp only
        refine hK.out _ _ (SB.next (by assumption) hb1) (fun hHeld => ?_)
        clear hK K
        try simp only [Act.put, s1, s2, s3]
        refine tk 8 56 (.string (b ++ bT u.1)) ?_ (hv := by (intro V hV; clear hV; go_simp; (try first | rfl | omega)))
        try simp only [s1, s2, s3]
        refine wpAnyH_ready (rs := [15]) (by kernel_rfl) (by simp) ?_
        refine AllReadyH.cons rfl (fun K hK => ?_) ?_
        · rw [if_pos (by rfl)]
          go_simp
          go_at_call 59
          refine (rtext_any u.2 hum.2 _).mono ?_
          rintro e v2 ⟨rfl, hb2⟩
          dsimp only
          refine hK.out _ _ (SB.next (by assumption) hb2) (fun hHeld => ?_)
          clear hK K
          try simp only [Act.put, s1, s2, s3]
          refine tk 16 64 (.string (b ++ bT u.1 ++ bT u.2)) ?_ (hv := by (intro V hV; clear hV; go_simp; (try first | rfl | omega)))
          try simp only [s1, s2, s3]
          refine tk 17 3 (.string (b ++ bT u.1 ++ bT u.2)) ?_ (hv := by (intro V hV; clear hV; go_simp; (try first | rfl | omega)))
          try simp only [s1, s2, s3]
          refine wpAnyH_done (by kernel_rfl) ?_ _
          have HE := Lib.hid hHeld
          repeat clear hHeld
          clear hS0
          go_wp2
          go_roundw
          case rel =>
            refine ⟨k + 1, _, by omega, by go_num, rfl, by rw [ByteArray.size_append]; omega, Lib.hid ⟨?_, HE.out⟩⟩
            rw [BL_append, BL_append, BL_bT, BL_bT, H.out.1, List.take_add_one, HU.out]
            simp [List.flatMap_append, eP]
          case measure => simp [intOf]; omega
        exact AllReadyH.nil
      exact AllReadyH.nil
    · obtain rfl : k = o.labels.length := by omega
      have hh := rb_head o b (by have := H.out.1; rwa [List.take_length] at this)
      have HH := Lib.hid hh
      have HB9 := Lib.hid H.out.2
      have hbz2 : b.size ≤ 30000 := by omega
      have kx0 := ka0 _ H.out.2.is
      clear hh hkn hbz H hk
      go_upto_region 23 with (fail)
      clear kx0 kx6
      have z1 : (bT o.about).size ≤ 201 := by rw [bT_size]; have := HF.out.about; omega
      have z2 : (bT o.reason).size ≤ 201 := by rw [bT_size]; have := HF.out.reason; omega
      have z3 : (b ++ bT o.about).size ≤ 38100 := by rw [ByteArray.size_append]; omega
      refine wp_region_held_drew (S := SB x (oc o f l c p i) w1 []) (by kernel_rfl) HB9.out.drew (fun hS0 => ?_)
      refine tk 0 139 (.string b) ?_
      try simp only [s1, s2, s3]
      refine tk 1 140 (.pointer (some ⟨x, 17, none⟩)) ?_
      try simp only [s1, s2, s3]
      refine tk 2 141 (.string o.about) ?_ (hv := by (intro V hV; have hc := ka17 V hV.is; clear hV; go_simp; try rfl))
      try simp only [s1, s2, s3]
      refine tk 5 144 (.pointer (some ⟨x, 18, none⟩)) ?_
      try simp only [s1, s2, s3]
      refine tk 6 145 (.string o.reason) ?_ (hv := by (intro V hV; have hc := ka18 V hV.is; clear hV; go_simp; try rfl))
      try simp only [s1, s2, s3]
      refine wpAnyH_ready (rs := [3]) (by kernel_rfl) (by simp) ?_
      refine AllReadyH.cons rfl (fun K hK => ?_) ?_
      · rw [if_pos (by rfl)]
        go_simp
        go_at_call 59
        refine (rtext_any o.about HF.out.about _).mono ?_
        rintro e v1 ⟨rfl, hb1⟩
        dsimp only
        refine hK.out _ _ (SB.next (by assumption) hb1) (fun hHeld => ?_)
        clear hK K
        try simp only [Act.put, s1, s2, s3]
        refine tk 4 143 (.string (b ++ bT o.about)) ?_ (hv := by (intro V hV; clear hV; go_simp; (try first | rfl | omega)))
        try simp only [s1, s2, s3]
        refine wpAnyH_ready (rs := [7]) (by kernel_rfl) (by simp) ?_
        refine AllReadyH.cons rfl (fun K hK => ?_) ?_
        · rw [if_pos (by rfl)]
          go_simp
          go_at_call 59
          refine (rtext_any o.reason HF.out.reason _).mono ?_
          rintro e v2 ⟨rfl, hb2⟩
          dsimp only
          refine hK.out _ _ (SB.next (by assumption) hb2) (fun hHeld => ?_)
          clear hK K
          try simp only [Act.put, s1, s2, s3]
          refine tk 8 147 (.string (b ++ bT o.about ++ bT o.reason)) ?_ (hv := by (intro V hV; clear hV; go_simp; (try first | rfl | omega)))
          try simp only [s1, s2, s3]
          refine tk 9 3 (.string (b ++ bT o.about ++ bT o.reason)) ?_ (hv := by (intro V hV; clear hV; go_simp; (try first | rfl | omega)))
          try simp only [s1, s2, s3]
          refine wpAnyH_done (by kernel_rfl) ?_ _
          have HE := Lib.hid hHeld
          repeat clear hHeld
          clear hS0
          go_wp2
          go_ret
          refine ⟨ret_bytes ?_, B1.out.trans (belowLe B1.out.size HE.out.b)⟩
          rw [enc_ob o HF.out.kind]
          simp only [BL_append, BL_bT, BL_ofBL, HH.out]
          rw [show eTail o = [o.about, o.reason].flatMap eT by unfold eTail; rw [if_neg (by have := HK.out; omega), if_neg (by have := HK.out; omega), if_neg (by have := HK.out; omega), if_pos HK.out]]
          simp only [List.append_assoc, List.flatMap_cons, List.flatMap_nil, List.append_nil]
        exact AllReadyH.nil
      exact AllReadyH.nil
theorem rbytes_any (o : Ob) (f l c p i : Sl) (hf : Fits o) (w : World) (hr : RowsR w o f l c p i) :
    Calls Try.prog 48 #[.agg (oc o f l c p i)] w fun e w' => e = .returned (.string (bytesS o)) ∧ Below w.heap.size w w' := by
  have := hf.kind
  rcases (by omega : o.kind = 1 ∨ o.kind = 2 ∨ o.kind = 3 ∨ o.kind = 4) with h | h | h | h
  · exact rbytes_1 o f l c p i hf h w hr
  · exact rbytes_2 o f l c p i hf h w hr
  · exact rbytes_3 o f l c p i hf h w hr
  · exact rbytes_4 o f l c p i hf h w hr
end Go.Proofs.Ytolndeolehkjoaa
