/- The walk of same. -/
import Derived.Test.YtdmjbdecemajpaaDf6
import Derived.Test.YtdmjbdecemajpaaDfP
import Derived.Deep.QuietTactic
namespace Go.Proofs.Ytdmjbdecemajpaa.D
set_option linter.unusedVariables false
set_option linter.unusedSimpArgs false
open Go.RowKit
theorem on_q (B db m : Nat) (s : DS) (w : World) (h : DInv B db m s w) (n : Nat) : Calls Try.prog 11 #[.pointer (some ⟨db, 0, none⟩)] (w.drewN n) fun e w' => e = .returned (.bool !s.off) ∧ w' = w.drewN n :=
  (on_any B db m s _ (h.below (G.bdrewN (Below.refl _ _) n))).mono fun _ _ ⟨h1, h2⟩ => ⟨h1, h2.symm⟩
theorem steps_q (B db m : Nat) (s : DS) (w : World) (h : DInv B db m s w) (n : Nat) : Calls Try.prog 16 #[.pointer (some ⟨db, 0, none⟩)] (w.drewN n) fun e w' => e = .returned (.int .i64 s.steps) ∧ w' = w.drewN n :=
  (steps_any B db m s _ (h.below (G.bdrewN (Below.refl _ _) n))).mono fun _ _ ⟨h1, h2⟩ => ⟨h1, h2.symm⟩
set_option maxRecDepth 100000 in
set_option maxHeartbeats 8000000 in
theorem same_any (B db m rb : Nat) (s : DS) (r : RS) (v : Value) (k : Nat) (w : World) (h : DInv B db m s w) (hO : Okk s k) (hk : k ≤ 1000000) (hr : RInv B rb r v w) (hR : Rel s r) (hoff : s.off = false) :
    Calls Try.prog 15 #[.pointer (some ⟨db, 0, none⟩), .pointer (some ⟨rb, 0, none⟩)] w fun e w' => e = .returned (.bool true) ∧ Below w.heap.size w w' := by
  obtain ⟨n, hn⟩ : ∃ n, n = s.keys.length := ⟨_, rfl⟩
  have hL := list_any B db m s w h hO.nd hO.rng (Nat.le_trans hO.len (by decide))
  rw [← hn] at hL
  have HL := Lib.hid hL
  clear hL
  have HI := Lib.hid h
  have HO := Lib.hid hO
  have HRI := Lib.hid hr
  have HR := Lib.hid hR
  have HOff := Lib.hid hoff
  clear h hO hr hR hoff
  go_enter Try.func15, Try.ntmps15
  go_upto_region 2 with (go_at_call 17; refine HL.out.mono ?_; rintro e w1 ⟨lv, rfl, hown, hb1⟩)
  have hI1 := HI.out.below hb1
  have hR1 := HRI.out.below hb1
  have HB1 := Lib.hid hb1
  obtain ⟨LA, lc, rfl⟩ := owns_shape hown
  obtain ⟨FA, fc, hv⟩ := owns_shape hR1.row
  have hlen : r.fs.length = s.keys.length := by rw [HR.out.fs, List.length_map]
  rw [hlen, ← hn] at hv
  have hn1 : n ≤ 1000 := by
    have h1 := HR.out.len
    have h2 := HO.out.len
    omega
  have r0 := hR1.c0
  rw [hv] at r0
  have r1 := hR1.c1
  have r3 := hR1.c3
  rw [HR.out.steps] at r3
  have hlt := hR1.lt
  have HV := Lib.hid hv
  have HOn := Lib.hid (fun q => on_q B db m s w1 hI1 q)
  have HSt := Lib.hid (fun q => steps_q B db m s w1 hI1 q)
  have HOwn := Lib.hid hown
  have HI1 := Lib.hid hI1
  have HR1 := Lib.hid hR1
  have HN := Lib.hid hn
  have on1 : Hid (∀ q, Calls Try.prog 11 #[.pointer (some ⟨db, 0, none⟩)] (w1.drewN q) fun e w' => e = .returned (.bool true) ∧ w' = w1.drewN q) := Lib.hid (fun q => by have := HOn.out q; rw [HOff.out] at this; exact this)
  clear hown hb1 hI1 hR1 hv hlen hn
  go_quiet ((first | (go_at_call 11; exact Calls.quiet_of_same (on1.out _)) | (go_at_call 16; exact Calls.quiet_of_same (HSt.out _))))
  go_upto_block 0 with (fail)
  have HB2 : Hid (Below w.heap.size w (w1.drewN nq)) := Lib.hid (G.bdrewN HB1.out nq)
  have hB2' : Below w1.heap.size w1 (w1.drewN nq) := G.bdrewN (Below.refl _ _) nq
  generalize w1.drewN nq = w2 at *
  have HB2' := Lib.hid hB2'
  clear hB2' r0 r1 r3 hlt
  go_wp2_with (fail)
  go_loopw [6] (fun i wr => ∃ k : Nat, k ≤ n ∧ i = .int .i64 k ∧ Hid (Below w1.heap.size w1 wr)) (fun i _ => n - (intOf i).toNat)
  case atStart => exact ⟨0, by omega, by go_num, HB2'⟩
  case round =>
    obtain ⟨j, hj, rfl, HB⟩ := hrel
    by_cases hjn : j < n
    · have hjk : j < s.keys.length := by have := HN.out; omega
      obtain ⟨no, hno⟩ : ∃ no, no = s.keys[j] := ⟨_, rfl⟩
      have hmem : no ∈ s.keys := by rw [hno]; exact List.getElem_mem hjk
      have hsome := (keys_mem no).1 hmem
      have hfl := fl_ok HO.out.fl no
      rw [show (M.get s.files no).getD fl0 = s.fl no from rfl] at hfl
      obtain ⟨_, _, _, hvl, _, _, hcl⟩ := G.HasRow.of_owns HOwn.out
      cases hvl
      obtain ⟨lad, hla, e0⟩ := hcl j (kv no) (by rw [List.getElem?_map, List.getElem?_eq_getElem hjk, hno]; rfl)
      subst hla
      have e0 := G.cell_below HB.out e0
      replace e0 : wr.cell? (lad.add j) = some (.int .i64 no) := e0
      obtain ⟨_, FA', fc', hv2, hc2⟩ := row3 (f := rfc) (fun _ => rfl) HR1.out.row
      have hfj : j < r.fs.length := by rw [HR.out.fs, List.length_map]; exact hjk
      obtain ⟨g, hg, hcell⟩ := hc2 j hfj
      subst hg
      rw [HV.out] at hv2
      cases hv2
      have hent : r.fs[j] = ent s no := by simp only [HR.out.fs, List.getElem_map, hno]
      rw [hent] at hcell
      have HCell : Hid (∀ V, Below w1.heap.size w1 V → V.cell? ⟨g, j * 3, none⟩ = some (.int .i64 no) ∧ V.cell? ⟨g, j * 3 + 1, none⟩ = some (.string (ent s no).safe) ∧ V.cell? ⟨g, j * 3 + 2, none⟩ = some (.string (ent s no).tail)) := Lib.hid (fun V hV => ⟨hcell V hV 0 (by decide), hcell V hV 1 (by decide), hcell V hV 2 (by decide)⟩)
      have hall := ent_all hfl.1
      have hesz := ent_size hfl.1
      have hT : readT s no = (ent s no).safe ++ (ent s no).tail := by rw [readT, HOff.out, hall]; rfl
      have hb : readB s no = true := by rw [readB, HOff.out, hsome]; rfl
      have hcr := read_any B db m s no wr (HI1.out.below HB.out)
      rw [hT, hb] at hcr
      have hszz : (ent s no).safe.size + (ent s no).tail.size = (s.fl no).data.size := by rw [← ByteArray.size_append, hall]
      have hcs : ∀ V, Below w1.heap.size w1 V → Calls Try.prog 12 #[.pointer (some ⟨db, 0, none⟩), .int .i64 no] V fun e w' => e = .returned (.int .i64 (ent s no).safe.size) ∧ w' = V := fun V hV => by
        rw [hesz]
        exact (safe_any B db m s no V (HI1.out.below hV)).mono fun _ _ ⟨h1, h2⟩ => ⟨h1, h2.symm⟩
      obtain ⟨S, hS⟩ : ∃ S, (ent s no).safe = S := ⟨_, rfl⟩
      obtain ⟨U, hU⟩ : ∃ U, (ent s no).tail = U := ⟨_, rfl⟩
      rw [hS] at hcr hszz hcs HCell
      rw [hU] at hcr hszz HCell
      have hcat : ¬ 9223372036854775807 < S.size + U.size := by omega
      have hSs : S.size ≤ 1048576 := by omega
      have HCR := Lib.hid hcr
      have HCS := Lib.hid hcs
      clear hall hesz hT hb hcr hszz hcs hS hU
      have HSome := Lib.hid hsome
      have HFl := Lib.hid hfl
      have HNo := Lib.hid hno
      clear hcl hc2 hcell hent hmem hsome hfl hno hfj
      go_upto_region 8 with (go_at_call 10; refine HCR.out.mono ?_; rintro e w5 ⟨rfl, hb5⟩)
      have hB5 : Below w1.heap.size w1 w5 := G.bthen HB.out hb5
      have e5 := G.cell_below hb5 e0
      have q0 := (HCell.out w5 hB5).1
      have q1 := (HCell.out w5 hB5).2.1
      have q2 := (HCell.out w5 hB5).2.2
      have r0 := (HR1.out.below hB5).c0
      rw [HV.out] at r0
      have r1 := (HR1.out.below hB5).c1
      have hlt5 := (HR1.out.below hB5).lt
      have HB5 := Lib.hid hB5
      have HSF : Hid (∀ q, Calls Try.prog 12 #[.pointer (some ⟨db, 0, none⟩), .int .i64 no] (w5.drewN q) fun e w' => e = .returned (.int .i64 S.size) ∧ w' = w5.drewN q) := Lib.hid (fun q => HCS.out _ (G.bdrewN HB5.out q))
      clear hB5 hb5 e0
      go_quiet ((go_at_call 12; exact Calls.quiet_of_same (HSF.out _)))
      go_wp2
      go_roundw
      case rel => exact ⟨j + 1, by omega, by go_num, Lib.hid (G.bdrewN HB5.out _)⟩
      case measure => simp [intOf]; omega
    · have : j = n := by omega
      subst this
      go_wp2
      go_ret
      exact ⟨rfl, G.bthen HB1.out HB.out⟩
end Go.Proofs.Ytdmjbdecemajpaa.D
