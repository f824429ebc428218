/- The writer of bytes: an object. -/
import Derived.Test.YtolndeolehkjoaaNum1
namespace Go.Proofs.Ytolndeolehkjoaa
set_option linter.unusedVariables false
set_option linter.unusedSimpArgs false
open Go.RowKit CodP
/-- the rows of an object, which the writer leaves alone -/
structure RowsK (b : Nat) (w : World) (o : Ob) (f l c p i : Sl) : Prop where
  fr : RowK b w f.A (o.fins.flatMap cS)
  lr : RowK b w l.A (o.labels.flatMap cP)
  cr : RowK b w c.A (o.cidrs.flatMap cS)
  pr : RowK b w p.A (o.fams.flatMap cI)
  ir : RowK b w i.A (o.ips.flatMap cS)
theorem RowsK.fr' {b : Nat} {w w1 : World} {o : Ob} {f l c p i : Sl} (h : RowsK b w o f l c p i) (hF : FrB b w w1) : RowsK b w1 o f l c p i :=
  ⟨h.fr.fr hF, h.lr.fr hF, h.cr.fr hF, h.pr.fr hF, h.ir.fr hF⟩
/-- the state of the walk -/
structure WO (w0 : World) (b xb ob : Nat) (m : List UInt8) (o : Ob) (f l c p i : Sl) (w : World) : Prop where
  bd : Bd 77 b m w
  box : w.heap[xb]? = some (.cells #[.pointer (some ⟨b, 0, none⟩)] 72 (0, 0))
  is : w.heap[ob]? = some (.cells (oc o f l c p i) 32 (0, 0))
  rows : RowsK b w o f l c p i
  fr : FrB b w0 w
  ne : b < xb ∧ b < ob
theorem WO.step {w0 w w1 : World} {b xb ob : Nat} {m m1 : List UInt8} {o : Ob} {f l c p i : Sl} (h : WO w0 b xb ob m o f l c p i w) (hb : Bd 77 b m1 w1) (hF : FrB b w w1) : WO w0 b xb ob m1 o f l c p i w1 where
  bd := hb
  box := (hF.block xb (.inr ⟨by have := h.ne; omega, _, _, _, h.box, by decide⟩) (Array.getElem?_eq_some_iff.1 h.box).1).trans h.box
  is := (hF.block ob (.inr ⟨by have := h.ne; omega, _, _, _, h.is, by decide⟩) (Array.getElem?_eq_some_iff.1 h.is).1).trans h.is
  rows := h.rows.fr' hF
  fr := h.fr.trans hF
  ne := h.ne
theorem WO.cx {w0 w : World} {b xb ob : Nat} {m : List UInt8} {o : Ob} {f l c p i : Sl} (h : WO w0 b xb ob m o f l c p i w) : w.cell? ⟨xb, 0, none⟩ = some (.pointer (some ⟨b, 0, none⟩)) := by simp [World.cell?, h.box]
theorem WO.cl {w0 w : World} {b xb ob : Nat} {m : List UInt8} {o : Ob} {f l c p i : Sl} (h : WO w0 b xb ob m o f l c p i w) (j : Nat) : w.cell? ⟨ob, j, none⟩ = (oc o f l c p i)[j]? := by simp [World.cell?, h.is]
/-- what the writer lays -/
def eHead (o : Ob) : List UInt8 := eB o.kind ++ eT o.name ++ BL (num8 o.uid.toNat ++ num8 o.version.toNat) ++ eB (if o.deleting then 1 else 0) ++ (eB o.fins.length ++ o.fins.flatMap eT) ++ (eB o.labels.length ++ o.labels.flatMap eP)
def eTail (o : Ob) : List UInt8 :=
  if o.kind = 1 then (eB o.cidrs.length ++ o.cidrs.flatMap eT) ++ eT o.status
  else if o.kind = 2 then eB o.type ++ eB o.policy ++ (eB o.fams.length ++ o.fams.flatMap eB) ++ (eB o.ips.length ++ o.ips.flatMap eT)
  else if o.kind = 3 then [o.v4, o.v6].flatMap eT ++ eB o.bits ++ eT o.sel
  else if o.kind = 4 then [o.about, o.reason].flatMap eT else []
/-- the bounds that a shape keeps -/
structure Fits (o : Ob) : Prop where
  kind : 1 ≤ o.kind ∧ o.kind ≤ 4
  name : o.name.size ≤ 200
  uid : 0 ≤ o.uid ∧ o.uid ≤ 1099511627776
  version : 0 ≤ o.version ∧ o.version ≤ 1099511627776
  fins : o.fins.length ≤ 40 ∧ ∀ x ∈ o.fins, x.size ≤ 200
  labels : o.labels.length ≤ 40 ∧ ∀ x ∈ o.labels, x.1.size ≤ 200 ∧ x.2.size ≤ 200
  cidrs : o.cidrs.length ≤ 40 ∧ ∀ x ∈ o.cidrs, x.size ≤ 200
  status : o.status.size ≤ 200
  type : 0 ≤ o.type ∧ o.type ≤ 255
  policy : 0 ≤ o.policy ∧ o.policy ≤ 255
  fams : o.fams.length ≤ 40 ∧ ∀ x ∈ o.fams, 0 ≤ x ∧ x ≤ 255
  ips : o.ips.length ≤ 40 ∧ ∀ x ∈ o.ips, x.size ≤ 200
  v4 : o.v4.size ≤ 200
  v6 : o.v6.size ≤ 200
  bits : 0 ≤ o.bits ∧ o.bits ≤ 255
  sel : o.sel.size ≤ 200
  about : o.about.size ≤ 200
  reason : o.reason.size ≤ 200
theorem texts_le (l : List ByteArray) (h : l.length ≤ 40) (hs : ∀ x ∈ l, x.size ≤ 200) : (l.flatMap eT).length ≤ 8040 := by
  have := flat_le eT 201 l fun x hx => by rw [eT_len]; have := hs x hx; omega
  have h2 : l.length * 201 ≤ 40 * 201 := Nat.mul_le_mul_right _ h
  omega
theorem pairs_le (l : List (ByteArray × ByteArray)) (h : l.length ≤ 40) (hs : ∀ x ∈ l, x.1.size ≤ 200 ∧ x.2.size ≤ 200) : (l.flatMap eP).length ≤ 16080 := by
  have := flat_le eP 402 l fun x hx => by simp only [eP, List.length_append]; rw [eT_len, eT_len]; have := hs x hx; omega
  have h2 : l.length * 402 ≤ 40 * 402 := Nat.mul_le_mul_right _ h
  omega
theorem eB_len (n : Int) : (eB n).length = 1 := rfl
set_option maxRecDepth 100000 in
set_option maxHeartbeats 8000000 in
theorem wobject_any (b : Nat) (m : List UInt8) (hm : m.length ≤ 100) (o : Ob) (f l c p i : Sl) (hf : Fits o) (w : World) (h : Bd 77 b m w) (hr : RowsK b w o f l c p i) :
    Calls Try.prog 42 #[.pointer (some ⟨b, 0, none⟩), .agg (oc o f l c p i)] w fun e w' => e = .returned (.tuple #[]) ∧ Bd 77 b (m ++ (eHead o ++ eTail o)) w' ∧ FrB b w w' := by
  have hmf : ∀ (fn : Fn) (first cap : Array Value) (w : World), (Instr.makeFunc fn first cap).run Try.prog w = .ok (.func fn first cap) w := fun _ _ _ _ => rfl
  obtain ⟨w0, hw0⟩ : ∃ w0, w0 = (w.alloc (.cells #[.pointer (some ⟨b, 0, none⟩)] 72)).alloc (.cells (oc o f l c p i) 32) := ⟨_, rfl⟩
  have b1 := bel_alloc w (.cells #[.pointer (some ⟨b, 0, none⟩)] 72)
  have b2 := bel_alloc (w.alloc (.cells #[.pointer (some ⟨b, 0, none⟩)] 72)) (.cells (oc o f l c p i) 32)
  rw [← hw0] at b2
  have hlt := h.lt
  have hs1 : (w.alloc (.cells #[.pointer (some ⟨b, 0, none⟩)] 72)).heap.size = w.heap.size + 1 := by simp
  obtain ⟨xb, hxb⟩ : ∃ xb, xb = w.heap.size := ⟨_, rfl⟩
  obtain ⟨ob, hob⟩ : ∃ ob, ob = w.heap.size + 1 := ⟨_, rfl⟩
  have a0 : WO w b xb ob m o f l c p i w0 :=
    { bd := (h.below b1).below b2
      box := by rw [hxb]; exact (b2.block _ (by rw [hs1]; omega)).trans (G.heap_new _ _)
      is := by rw [hob, hw0]; have := G.heap_new (w.alloc (.cells #[.pointer (some ⟨b, 0, none⟩)] 72)) (.cells (oc o f l c p i) 32); rw [hs1] at this; exact this
      rows := (hr.fr' (FrB.of_below b1)).fr' (FrB.of_below b2)
      fr := (FrB.of_below b1).trans (FrB.of_below b2)
      ne := ⟨by omega, by omega⟩ }
  have t1 := texts_le o.fins hf.fins.1 hf.fins.2
  have t2 := pairs_le o.labels hf.labels.1 hf.labels.2
  have t3 := texts_le o.cidrs hf.cidrs.1 hf.cidrs.2
  have t4 := texts_le o.ips hf.ips.1 hf.ips.2
  have t5 : (o.fams.flatMap eB).length ≤ 40 := by
    have := flat_le eB 1 o.fams fun x _ => Nat.le_refl _
    have := hf.fams.1
    omega
  have q := hf.name
  have q1 := hf.status
  have q2 := hf.v4
  have q3 := hf.v6
  have q4 := hf.sel
  have HM := Lib.hid hm
  have HLEN := Lib.hid (And.intro t1 (And.intro t2 (And.intro t3 (And.intro t4 (And.intro t5 (And.intro q (And.intro q1 (And.intro q2 (And.intro q3 q4)))))))))
  have A0 := Lib.hid a0
  have HF := Lib.hid hf
  have HW := Lib.hid hw0
  clear h hr a0 b1 b2 hs1 hlt t1 t2 t3 t4 t5 q q1 q2 q3 q4 hf hm hw0
  go_enter Try.func42, Try.ntmps42
  go_upto_region 1 with (fail)
  rw [← hob, ← hxb]
  rw [← HW.out]
  clear hob hxb HW

  have cx := A0.out.cx
  have k0 : w0.cell? ⟨ob, 0, none⟩ = some (.int .i64 o.kind) := (A0.out.cl 0).trans rfl
  have hc := wsmall_any b m o.kind (by have := HF.out.kind; omega) _ A0.out.bd (by have := HM.out; omega)
  have HC := Lib.hid hc
  clear hc
  go_wp2_with (fail)
  refine HC.out.mono ?_
  rintro e w1 ⟨rfl, h1, h2⟩
  obtain ⟨m1, hm1⟩ : ∃ y, y = m ++ eB o.kind := ⟨_, rfl⟩
  rw [← hm1] at h1
  have hl1 : m1.length ≤ 101 := by rw [hm1, List.length_append]; have := HM.out; have := HLEN.out; simp only [List.length_append, eB_len, eT_len, BL_length, ByteArray.size_append, num8_size] at *; omega
  have L1 := Lib.hid hl1
  have M1 := Lib.hid hm1
  have A1 := Lib.hid (A0.out.step h1 h2)
  clear h1 h2 hl1 hm1
  clear HC cx k0
  have cx := A1.out.cx
  have k1 : w1.cell? ⟨ob, 1, none⟩ = some (.string o.name) := (A1.out.cl 1).trans rfl
  have hc := wtext_any b m1 o.name HF.out.name _ A1.out.bd (by have := L1.out; omega)
  have HC := Lib.hid hc
  clear hc
  go_wp2_with (fail)
  refine HC.out.mono ?_
  rintro e w2 ⟨rfl, h1, h2⟩
  obtain ⟨m2, hm2⟩ : ∃ y, y = m1 ++ eT o.name := ⟨_, rfl⟩
  rw [← hm2] at h1
  have hl2 : m2.length ≤ 302 := by rw [hm2, List.length_append]; have := L1.out; have := HLEN.out; simp only [List.length_append, eB_len, eT_len, BL_length, ByteArray.size_append, num8_size] at *; omega
  have L2 := Lib.hid hl2
  have M2 := Lib.hid hm2
  have A2 := Lib.hid (A1.out.step h1 h2)
  clear h1 h2 hl2 hm2
  clear HC cx k1
  have cx := A2.out.cx
  have k2 : w2.cell? ⟨ob, 2, none⟩ = some (.int .i64 o.uid) := (A2.out.cl 2).trans rfl
  have k3 : w2.cell? ⟨ob, 3, none⟩ = some (.int .i64 o.version) := (A2.out.cl 3).trans rfl
  have hca := fun V => number0_any o.uid.toNat (by have := HF.out.uid; omega) o.uid (by have := HF.out.uid; omega) V
  have hcb := fun V => number0_any o.version.toNat (by have := HF.out.version; omega) o.version (by have := HF.out.version; omega) V
  have HCA := Lib.hid hca
  have HCB := Lib.hid hcb
  clear hca hcb
  go_upto_region 3 with (fail)
  go_cut [] from 12 to 22 (fun w' => Hid (WO w b xb ob (m2 ++ BL (num8 o.uid.toNat ++ num8 o.version.toNat)) o f l c p i w'))
  case first =>
    have z1 := num8_size o.uid.toNat
    have z2 := num8_size o.version.toNat
    go_region_with (first
      | (go_at_call 54; refine (wstr_any 77 lies77 b m2 (num8 o.uid.toNat ++ num8 o.version.toNat) _ BB.out.bd (by rw [ByteArray.size_append, num8_size, num8_size]; have := L2.out; omega)).mono ?_; rintro e w3 ⟨rfl, h3, f3⟩; have BC := Lib.hid (BB.out.step h3 f3); clear h3 f3)
      | (go_at_call_of 12 (Value.int .i64 o.version); refine (HCB.out _).mono ?_; rintro e wb ⟨rfl, hb⟩; have BB := Lib.hid (BA.out.step (BA.out.bd.below hb) (FrB.of_below hb)); have cxb := BB.out.cx; clear hb)
      | (go_at_call_of 12 (Value.int .i64 o.uid); refine (HCA.out _).mono ?_; rintro e wa ⟨rfl, ha⟩; have BA := Lib.hid (WO.step (w1 := wa) A2.out (A2.out.bd.below ⟨ha.os, ha.tape, ha.output, ha.size, ha.block⟩) (FrB.of_below ⟨ha.os, ha.tape, ha.output, ha.size, ha.block⟩)); have cxa := BA.out.cx; have kv : wa.cell? ⟨ob, 3, none⟩ = some (.int .i64 o.version) := (BA.out.cl 3).trans rfl; clear ha))
    all_goals
      go_wp2
      go_meet
      case rel => exact BC
  case rest =>
  obtain ⟨m3, hm3⟩ : ∃ y, y = m2 ++ BL (num8 o.uid.toNat ++ num8 o.version.toNat) := ⟨_, rfl⟩
  rw [← hm3] at hcut
  have hl3 : m3.length ≤ 318 := by rw [hm3, List.length_append]; have := L2.out; simp only [BL_length, ByteArray.size_append, num8_size]; omega
  have L3 := Lib.hid hl3
  have M3 := Lib.hid hm3
  have A3 := hcut
  clear hcut HCA HCB cx k2 k3 hl3 hm3
  have cx := A3.out.cx
  have k4 : wc.cell? ⟨ob, 4, none⟩ = some (.bool o.deleting) := (A3.out.cl 4).trans rfl
  have hc := wtruth_any b m3 o.deleting _ A3.out.bd (by have := L3.out; omega)
  have HC := Lib.hid hc
  clear hc
  go_wp2_with (fail)
  refine HC.out.mono ?_
  rintro e w4 ⟨rfl, h1, h2⟩
  obtain ⟨m4, hm4⟩ : ∃ y, y = m3 ++ eB (if o.deleting then 1 else 0) := ⟨_, rfl⟩
  rw [← hm4] at h1
  have hl4 : m4.length ≤ 319 := by rw [hm4, List.length_append]; have := L3.out; have := HLEN.out; simp only [List.length_append, eB_len, eT_len, BL_length, ByteArray.size_append, num8_size] at *; omega
  have L4 := Lib.hid hl4
  have M4 := Lib.hid hm4
  have A4 := Lib.hid (A3.out.step h1 h2)
  clear h1 h2 hl4 hm4
  clear HC cx k4
  have cx := A4.out.cx
  have k5 : w4.cell? ⟨ob, 5, none⟩ = some (.slice f.A o.fins.length f.c) := (A4.out.cl 5).trans rfl
  have hc := wlaystr_any b m4 o.fins f.A f.c HF.out.fins.1 HF.out.fins.2 _ A4.out.bd A4.out.rows.fr (by have := L4.out; omega)
  have HC := Lib.hid hc
  clear hc
  go_wp2_with (fail)
  refine HC.out.mono ?_
  rintro e w5 ⟨rfl, h1, h2⟩
  obtain ⟨m5, hm5⟩ : ∃ y, y = m4 ++ (eB o.fins.length ++ o.fins.flatMap eT) := ⟨_, rfl⟩
  rw [← hm5] at h1
  have hl5 : m5.length ≤ 8360 := by rw [hm5, List.length_append]; have := L4.out; have := HLEN.out; simp only [List.length_append, eB_len, eT_len, BL_length, ByteArray.size_append, num8_size] at *; omega
  have L5 := Lib.hid hl5
  have M5 := Lib.hid hm5
  have A5 := Lib.hid (A4.out.step h1 h2)
  clear h1 h2 hl5 hm5
  clear HC cx k5
  have cx := A5.out.cx
  have k6 : w5.cell? ⟨ob, 6, none⟩ = some (.slice l.A o.labels.length l.c) := (A5.out.cl 6).trans rfl
  have hc := wlaypair_any b xb m5 o.labels l.A l.c HF.out.labels.1 HF.out.labels.2 _ A5.out.bd A5.out.rows.lr A5.out.box (by have := A5.out.ne; omega) (by have := L5.out; omega)
  have HC := Lib.hid hc
  clear hc
  go_wp2_with (fail)
  refine HC.out.mono ?_
  rintro e w6 ⟨rfl, h1, h2⟩
  obtain ⟨m6, hm6⟩ : ∃ y, y = m5 ++ (eB o.labels.length ++ o.labels.flatMap eP) := ⟨_, rfl⟩
  rw [← hm6] at h1
  have hl6 : m6.length ≤ 24441 := by rw [hm6, List.length_append]; have := L5.out; have := HLEN.out; simp only [List.length_append, eB_len, eT_len, BL_length, ByteArray.size_append, num8_size] at *; omega
  have L6 := Lib.hid hl6
  have M6 := Lib.hid hm6
  have A6 := Lib.hid (A5.out.step h1 h2)
  clear h1 h2 hl6 hm6
  clear HC cx k6
  have cx := A6.out.cx
  have k0 : w6.cell? ⟨ob, 0, none⟩ = some (.int .i64 o.kind) := (A6.out.cl 0).trans rfl
  by_cases hk1 : o.kind = 1
  · have HK := Lib.hid hk1
    have kb1 : (o.kind == 1) = true := by simpa using hk1
    clear hk1
    go_upto_region 9 with (fail)
    clear cx k0
    have cx := A6.out.cx
    have k7 : w6.cell? ⟨ob, 7, none⟩ = some (.slice c.A o.cidrs.length c.c) := (A6.out.cl 7).trans rfl
    have hc := wlaystr_any b m6 o.cidrs c.A c.c HF.out.cidrs.1 HF.out.cidrs.2 _ A6.out.bd A6.out.rows.cr (by have := L6.out; omega)
    have HC := Lib.hid hc
    clear hc
    go_wp2_with (fail)
    refine HC.out.mono ?_
    rintro e w7 ⟨rfl, h1, h2⟩
    obtain ⟨m7, hm7⟩ : ∃ y, y = m6 ++ (eB o.cidrs.length ++ o.cidrs.flatMap eT) := ⟨_, rfl⟩
    rw [← hm7] at h1
    have hl7 : m7.length ≤ 32482 := by rw [hm7, List.length_append]; have := L6.out; have := HLEN.out; simp only [List.length_append, eB_len, eT_len, BL_length, ByteArray.size_append, num8_size] at *; omega
    have L7 := Lib.hid hl7
    have M7 := Lib.hid hm7
    have A7 := Lib.hid (A6.out.step h1 h2)
    clear h1 h2 hl7 hm7
    clear HC cx k7
    have cx := A7.out.cx
    have k8 : w7.cell? ⟨ob, 8, none⟩ = some (.string o.status) := (A7.out.cl 8).trans rfl
    have hc := wtext_any b m7 o.status HF.out.status _ A7.out.bd (by have := L7.out; omega)
    have HC := Lib.hid hc
    clear hc
    go_wp2_with (fail)
    refine HC.out.mono ?_
    rintro e w8 ⟨rfl, h1, h2⟩
    obtain ⟨m8, hm8⟩ : ∃ y, y = m7 ++ eT o.status := ⟨_, rfl⟩
    rw [← hm8] at h1
    have hl8 : m8.length ≤ 32683 := by rw [hm8, List.length_append]; have := L7.out; have := HLEN.out; simp only [List.length_append, eB_len, eT_len, BL_length, ByteArray.size_append, num8_size] at *; omega
    have L8 := Lib.hid hl8
    have M8 := Lib.hid hm8
    have A8 := Lib.hid (A7.out.step h1 h2)
    clear h1 h2 hl8 hm8
    clear HC cx k8
    go_wp2
    refine bodyPost_end (results_none rfl _ _ _) rfl ⟨rfl, ?_, A8.out.fr⟩
    have hb := A8.out.bd
    rw [M8.out, M7.out, M6.out, M5.out, M4.out, M3.out, M2.out, M1.out] at hb
    have he : eTail o = (eB o.cidrs.length ++ o.cidrs.flatMap eT) ++ eT o.status := by
      unfold eTail; exact if_pos HK.out
    rw [he]
    unfold eHead
    simp only [List.append_assoc] at hb ⊢
    exact hb
  · have N1 := Lib.hid hk1
    have kb1 : (o.kind == 1) = false := by simpa using hk1
    clear hk1
    by_cases hk2 : o.kind = 2
    · have HK := Lib.hid hk2
      have kb2 : (o.kind == 2) = true := by simpa using hk2
      clear hk2
      go_upto_region 12 with (fail)
      clear cx k0
      have cx := A6.out.cx
      have k9 : w6.cell? ⟨ob, 9, none⟩ = some (.int .i64 o.type) := (A6.out.cl 9).trans rfl
      have hc := wsmall_any b m6 o.type HF.out.type _ A6.out.bd (by have := L6.out; omega)
      have HC := Lib.hid hc
      clear hc
      go_wp2_with (fail)
      refine HC.out.mono ?_
      rintro e w7 ⟨rfl, h1, h2⟩
      obtain ⟨m7, hm7⟩ : ∃ y, y = m6 ++ eB o.type := ⟨_, rfl⟩
      rw [← hm7] at h1
      have hl7 : m7.length ≤ 24442 := by rw [hm7, List.length_append]; have := L6.out; have := HLEN.out; simp only [List.length_append, eB_len, eT_len, BL_length, ByteArray.size_append, num8_size] at *; omega
      have L7 := Lib.hid hl7
      have M7 := Lib.hid hm7
      have A7 := Lib.hid (A6.out.step h1 h2)
      clear h1 h2 hl7 hm7
      clear HC cx k9
      have cx := A7.out.cx
      have k10 : w7.cell? ⟨ob, 10, none⟩ = some (.int .i64 o.policy) := (A7.out.cl 10).trans rfl
      have hc := wsmall_any b m7 o.policy HF.out.policy _ A7.out.bd (by have := L7.out; omega)
      have HC := Lib.hid hc
      clear hc
      go_wp2_with (fail)
      refine HC.out.mono ?_
      rintro e w8 ⟨rfl, h1, h2⟩
      obtain ⟨m8, hm8⟩ : ∃ y, y = m7 ++ eB o.policy := ⟨_, rfl⟩
      rw [← hm8] at h1
      have hl8 : m8.length ≤ 24443 := by rw [hm8, List.length_append]; have := L7.out; have := HLEN.out; simp only [List.length_append, eB_len, eT_len, BL_length, ByteArray.size_append, num8_size] at *; omega
      have L8 := Lib.hid hl8
      have M8 := Lib.hid hm8
      have A8 := Lib.hid (A7.out.step h1 h2)
      clear h1 h2 hl8 hm8
      clear HC cx k10
      have cx := A8.out.cx
      have k11 : w8.cell? ⟨ob, 11, none⟩ = some (.slice p.A o.fams.length p.c) := (A8.out.cl 11).trans rfl
      have hc := wlayint_any b m8 o.fams p.A p.c HF.out.fams.1 HF.out.fams.2 _ A8.out.bd A8.out.rows.pr (by have := L8.out; omega)
      have HC := Lib.hid hc
      clear hc
      go_wp2_with (fail)
      refine HC.out.mono ?_
      rintro e w9 ⟨rfl, h1, h2⟩
      obtain ⟨m9, hm9⟩ : ∃ y, y = m8 ++ (eB o.fams.length ++ o.fams.flatMap eB) := ⟨_, rfl⟩
      rw [← hm9] at h1
      have hl9 : m9.length ≤ 24484 := by rw [hm9, List.length_append]; have := L8.out; have := HLEN.out; simp only [List.length_append, eB_len, eT_len, BL_length, ByteArray.size_append, num8_size] at *; omega
      have L9 := Lib.hid hl9
      have M9 := Lib.hid hm9
      have A9 := Lib.hid (A8.out.step h1 h2)
      clear h1 h2 hl9 hm9
      clear HC cx k11
      have cx := A9.out.cx
      have k12 : w9.cell? ⟨ob, 12, none⟩ = some (.slice i.A o.ips.length i.c) := (A9.out.cl 12).trans rfl
      have hc := wlaystr_any b m9 o.ips i.A i.c HF.out.ips.1 HF.out.ips.2 _ A9.out.bd A9.out.rows.ir (by have := L9.out; omega)
      have HC := Lib.hid hc
      clear hc
      go_wp2_with (fail)
      refine HC.out.mono ?_
      rintro e w10 ⟨rfl, h1, h2⟩
      obtain ⟨m10, hm10⟩ : ∃ y, y = m9 ++ (eB o.ips.length ++ o.ips.flatMap eT) := ⟨_, rfl⟩
      rw [← hm10] at h1
      have hl10 : m10.length ≤ 32525 := by rw [hm10, List.length_append]; have := L9.out; have := HLEN.out; simp only [List.length_append, eB_len, eT_len, BL_length, ByteArray.size_append, num8_size] at *; omega
      have L10 := Lib.hid hl10
      have M10 := Lib.hid hm10
      have A10 := Lib.hid (A9.out.step h1 h2)
      clear h1 h2 hl10 hm10
      clear HC cx k12
      go_wp2
      refine bodyPost_end (results_none rfl _ _ _) rfl ⟨rfl, ?_, A10.out.fr⟩
      have hb := A10.out.bd
      rw [M10.out, M9.out, M8.out, M7.out, M6.out, M5.out, M4.out, M3.out, M2.out, M1.out] at hb
      have he : eTail o = eB o.type ++ eB o.policy ++ (eB o.fams.length ++ o.fams.flatMap eB) ++ (eB o.ips.length ++ o.ips.flatMap eT) := by
        unfold eTail; rw [if_neg (by rw [HK.out]; decide), if_pos HK.out]
      rw [he]
      unfold eHead
      simp only [List.append_assoc] at hb ⊢
      exact hb
    · have N2 := Lib.hid hk2
      have kb2 : (o.kind == 2) = false := by simpa using hk2
      clear hk2
      by_cases hk3 : o.kind = 3
      · have HK := Lib.hid hk3
        have kb3 : (o.kind == 3) = true := by simpa using hk3
        clear hk3
        go_upto_region 17 with (fail)
        clear cx k0
        have cx := A6.out.cx
        have k13 : w6.cell? ⟨ob, 13, none⟩ = some (.string o.v4) := (A6.out.cl 13).trans rfl
        have k14 : w6.cell? ⟨ob, 14, none⟩ = some (.string o.v6) := (A6.out.cl 14).trans rfl
        obtain ⟨wz, hwz⟩ : ∃ y, y = w6.alloc (.cells #[.string o.v4, .string o.v6] 9) := ⟨_, rfl⟩
        have bz : Below w6.heap.size w6 wz := by rw [hwz]; exact bel_alloc _ _
        have rz := RowK.two b w6 o.v4 o.v6 A6.out.bd.lt
        rw [← hwz] at rz
        have hc := wtexts_any b m6 [o.v4, o.v6] _ 2 (by simp) (by intro x hx; simp only [List.mem_cons, List.not_mem_nil, or_false] at hx; rcases hx with rfl | rfl; exact HF.out.v4; exact HF.out.v6) wz (A6.out.bd.below bz) rz (by have := L6.out; omega)
        have HC := Lib.hid hc
        have FZ := Lib.hid (FrB.of_below (b := b) bz)
        have HWZ := Lib.hid hwz
        clear hc bz rz hwz
        go_wp2_with (fail)
        rw [← HWZ.out]
        refine HC.out.mono ?_
        rintro e w7 ⟨rfl, h1, h2⟩
        have h2 := FZ.out.trans h2
        obtain ⟨m7, hm7⟩ : ∃ y, y = m6 ++ [o.v4, o.v6].flatMap eT := ⟨_, rfl⟩
        rw [← hm7] at h1
        have hl7 : m7.length ≤ 24843 := by rw [hm7, List.length_append]; have := L6.out; have := HLEN.out; have := HF.out.v4; have := HF.out.v6; simp only [List.flatMap_cons, List.flatMap_nil, List.length_nil, List.length_append, eB_len, eT_len, BL_length, ByteArray.size_append, num8_size] at *; omega
        have L7 := Lib.hid hl7
        have M7 := Lib.hid hm7
        have A7 := Lib.hid (A6.out.step h1 h2)
        clear h1 h2 hl7 hm7
        clear HC cx k13 k14
        have cx := A7.out.cx
        have k15 : w7.cell? ⟨ob, 15, none⟩ = some (.int .i64 o.bits) := (A7.out.cl 15).trans rfl
        have hc := wsmall_any b m7 o.bits HF.out.bits _ A7.out.bd (by have := L7.out; omega)
        have HC := Lib.hid hc
        clear hc
        go_wp2_with (fail)
        refine HC.out.mono ?_
        rintro e w8 ⟨rfl, h1, h2⟩
        obtain ⟨m8, hm8⟩ : ∃ y, y = m7 ++ eB o.bits := ⟨_, rfl⟩
        rw [← hm8] at h1
        have hl8 : m8.length ≤ 24844 := by rw [hm8, List.length_append]; have := L7.out; have := HLEN.out; simp only [List.length_append, eB_len, eT_len, BL_length, ByteArray.size_append, num8_size] at *; omega
        have L8 := Lib.hid hl8
        have M8 := Lib.hid hm8
        have A8 := Lib.hid (A7.out.step h1 h2)
        clear h1 h2 hl8 hm8
        clear HC cx k15
        have cx := A8.out.cx
        have k16 : w8.cell? ⟨ob, 16, none⟩ = some (.string o.sel) := (A8.out.cl 16).trans rfl
        have hc := wtext_any b m8 o.sel HF.out.sel _ A8.out.bd (by have := L8.out; omega)
        have HC := Lib.hid hc
        clear hc
        go_wp2_with (fail)
        refine HC.out.mono ?_
        rintro e w9 ⟨rfl, h1, h2⟩
        obtain ⟨m9, hm9⟩ : ∃ y, y = m8 ++ eT o.sel := ⟨_, rfl⟩
        rw [← hm9] at h1
        have hl9 : m9.length ≤ 25045 := by rw [hm9, List.length_append]; have := L8.out; have := HLEN.out; simp only [List.length_append, eB_len, eT_len, BL_length, ByteArray.size_append, num8_size] at *; omega
        have L9 := Lib.hid hl9
        have M9 := Lib.hid hm9
        have A9 := Lib.hid (A8.out.step h1 h2)
        clear h1 h2 hl9 hm9
        clear HC cx k16
        go_wp2
        refine bodyPost_end (results_none rfl _ _ _) rfl ⟨rfl, ?_, A9.out.fr⟩
        have hb := A9.out.bd
        rw [M9.out, M8.out, M7.out, M6.out, M5.out, M4.out, M3.out, M2.out, M1.out] at hb
        have he : eTail o = [o.v4, o.v6].flatMap eT ++ eB o.bits ++ eT o.sel := by
          unfold eTail; rw [if_neg (by rw [HK.out]; decide), if_neg (by rw [HK.out]; decide), if_pos HK.out]
        rw [he]
        unfold eHead
        simp only [List.append_assoc] at hb ⊢
        exact hb
      · have N3 := Lib.hid hk3
        have kb3 : (o.kind == 3) = false := by simpa using hk3
        clear hk3
        by_cases hk4 : o.kind = 4
        · have HK := Lib.hid hk4
          have kb4 : (o.kind == 4) = true := by simpa using hk4
          clear hk4
          go_upto_region 21 with (fail)
          clear cx k0
          have cx := A6.out.cx
          have k17 : w6.cell? ⟨ob, 17, none⟩ = some (.string o.about) := (A6.out.cl 17).trans rfl
          have k18 : w6.cell? ⟨ob, 18, none⟩ = some (.string o.reason) := (A6.out.cl 18).trans rfl
          obtain ⟨wz, hwz⟩ : ∃ y, y = w6.alloc (.cells #[.string o.about, .string o.reason] 9) := ⟨_, rfl⟩
          have bz : Below w6.heap.size w6 wz := by rw [hwz]; exact bel_alloc _ _
          have rz := RowK.two b w6 o.about o.reason A6.out.bd.lt
          rw [← hwz] at rz
          have hc := wtexts_any b m6 [o.about, o.reason] _ 2 (by simp) (by intro x hx; simp only [List.mem_cons, List.not_mem_nil, or_false] at hx; rcases hx with rfl | rfl; exact HF.out.about; exact HF.out.reason) wz (A6.out.bd.below bz) rz (by have := L6.out; omega)
          have HC := Lib.hid hc
          have FZ := Lib.hid (FrB.of_below (b := b) bz)
          have HWZ := Lib.hid hwz
          clear hc bz rz hwz
          go_wp2_with (fail)
          rw [← HWZ.out]
          refine HC.out.mono ?_
          rintro e w7 ⟨rfl, h1, h2⟩
          have h2 := FZ.out.trans h2
          obtain ⟨m7, hm7⟩ : ∃ y, y = m6 ++ [o.about, o.reason].flatMap eT := ⟨_, rfl⟩
          rw [← hm7] at h1
          have hl7 : m7.length ≤ 24843 := by rw [hm7, List.length_append]; have := L6.out; have := HLEN.out; have := HF.out.about; have := HF.out.reason; simp only [List.flatMap_cons, List.flatMap_nil, List.length_nil, List.length_append, eB_len, eT_len, BL_length, ByteArray.size_append, num8_size] at *; omega
          have L7 := Lib.hid hl7
          have M7 := Lib.hid hm7
          have A7 := Lib.hid (A6.out.step h1 h2)
          clear h1 h2 hl7 hm7
          clear HC cx k17 k18
          go_wp2
          refine bodyPost_end (results_none rfl _ _ _) rfl ⟨rfl, ?_, A7.out.fr⟩
          have hb := A7.out.bd
          rw [M7.out, M6.out, M5.out, M4.out, M3.out, M2.out, M1.out] at hb
          have he : eTail o = [o.about, o.reason].flatMap eT := by
            unfold eTail; rw [if_neg (by rw [HK.out]; decide), if_neg (by rw [HK.out]; decide), if_neg (by rw [HK.out]; decide), if_pos HK.out]
          rw [he]
          unfold eHead
          simp only [List.append_assoc] at hb ⊢
          exact hb
        · have N4 := Lib.hid hk4
          have kb4 : (o.kind == 4) = false := by simpa using hk4
          clear hk4
          have := HF.out.kind; have := N1.out; have := N2.out; have := N3.out; have := N4.out; omega
end Go.Proofs.Ytolndeolehkjoaa
