/- The walk of WalLasts: De. -/
import Derived.Test.YtdmjbdecemajpaaDoorWmAm
namespace Go.Proofs.YtdmjbdecemajpaaDoor.D
set_option linter.unusedVariables false
set_option linter.unusedSimpArgs false
open Go.RowKit
set_option maxRecDepth 1000000 in
set_option maxHeartbeats 16000000 in
theorem round_De (l : List Aw) (A : Option Addr) (n c db m B : Nat) (w w1 : World) (Hn : Hid (n = l.length)) (hn0 : n ≤ 140737488351232) (HA : Hid (∀ x ∈ l, AwOk w x)) (HR : Hid (G.HasRow w 4 (.slice A n c) n (l.flatMap awc))) (HB1 : Hid (Below w.heap.size w w1)) (HB : Hid (B = w1.heap.size)) (Q0 : Exit → Act → World → Prop) (c1 c5 c21 c22 c23 c24 c25 c26 c27 c28 c29 c30 c31 c32 c33 c34 c35 : Value) (u2 u11 u12 u13 u14 u15 u16 u17 u18 u19 u20 u36 u37 u38 u39 u40 u41 u42 u43 u44 u45 u46 u47 u48 u49 u50 u51 u52 u53 u54 u55 u56 u57 u58 u59 u60 u61 u62 u63 u64 u65 u66 u67 u68 u69 u70 u71 u72 u73 u74 u75 u76 u77 u78 u79 u80 u81 u82 u83 u84 u85 u86 u87 u88 u89 u90 u91 u92 u93 u94 u95 u96 u97 u98 u99 u100 u101 u102 u103 u104 u105 u106 u107 u108 u109 u110 u111 u112 u113 u114 u115 u116 u117 u118 u119 u120 u121 u122 u123 u124 u125 u126 u127 u128 u129 u130 u131 u132 u133 u134 u135 u136 u137 u138 u139 u140 u141 u142 u143 u144 u145 u146 u147 u148 u149 u150 u151 u152 u153 u154 u155 u156 u157 u158 u159 u160 u161 u162 u163 u164 u165 u166 u167 u168 u169 u170 u171 u172 u173 u174 u175 u176 u177 u178 u179 u180 u181 u182 u183 u184 u185 u186 u187 u188 u189 u190 u191 u192 u193 u194 u195 u196 u197 u198 u199 u200 u201 u202 u203 u204 u205 u206 u207 : Value) (wr : World) (k lb : Nat) (T : ByteArray) (sf : Nat) (s : DS) (L : LS) (v va vn : Value) (all next : List ByteArray) (hkn : k < n) (hk2 : k < 80) (hX : WX B db m lb s L v va all vn next w1 wr) (hOk : Okk s (300 * (k + 1))) (hI : Inv s L T all sf next) (hBd : Bnd L k) (hal : all.length ≤ k) (hnx : next.length ≤ k) (hSm : Sm s (1000 + 308 * (k + 1))) (hkl : k < l.length) (hk1 : l[k].kind ≠ 1) (hk2' : l[k].kind ≠ 2) (hk3 : l[k].kind ≠ 3) (hk4 : l[k].kind ≠ 4) (hk5 : l[k].kind ≠ 5) (hoff : s.off = true) (P : List Int) (hP : (cutW l[k]).picks = P) (s2 s3 : DS) (g1 : Int) (t1 : ByteArray) (r1 : List ByteArray) (l1 p1 : Int) (o1 : Bool) (HF : Hid (OffF s P k s2 s3 ⟨g1, t1, r1, l1, p1, o1⟩)) (hT : t1 ≠ T) (hlast : next.getLast? = some t1) (HR1 : Hid (r1 = [])) :
    Code.wp Tryd.prog lbody (Exit.then (fun a' w' => FI B db m n c A w1 c1 c5 c21 c22 c23 c24 c25 c26 c27 c28 c29 c30 c31 c32 c33 c34 c35 a' w' ∧ mu n a' < mu n ⟨#[.slice A n c, c1, u2, .pointer (some ⟨db, 0, none⟩), .pointer (some ⟨lb, 0, none⟩), c5, .string T, va, .int .i64 sf, vn, .int .i64 k, u11, u12, u13, u14, u15, u16, u17, u18, u19, u20, c21, c22, c23, c24, c25, c26, c27, c28, c29, c30, c31, c32, c33, c34, c35, u36, u37, u38, u39, u40, u41, u42, u43, u44, u45, u46, u47, u48, u49, u50, u51, u52, u53, u54, u55, u56, u57, u58, u59, u60, u61, u62, u63, u64, u65, u66, u67, u68, u69, u70, u71, u72, u73, u74, u75, u76, u77, u78, u79, u80, u81, u82, u83, u84, u85, u86, u87, u88, u89, u90, u91, u92, u93, u94, u95, u96, u97, u98, u99, u100, u101, u102, u103, u104, u105, u106, u107, u108, u109, u110, u111, u112, u113, u114, u115, u116, u117, u118, u119, u120, u121, u122, u123, u124, u125, u126, u127, u128, u129, u130, u131, u132, u133, u134, u135, u136, u137, u138, u139, u140, u141, u142, u143, u144, u145, u146, u147, u148, u149, u150, u151, u152, u153, u154, u155, u156, u157, u158, u159, u160, u161, u162, u163, u164, u165, u166, u167, u168, u169, u170, u171, u172, u173, u174, u175, u176, u177, u178, u179, u180, u181, u182, u183, u184, u185, u186, u187, u188, u189, u190, u191, u192, u193, u194, u195, u196, u197, u198, u199, u200, u201, u202, u203, u204, u205, u206, u207], []⟩) Q0) ⟨#[.slice A n c, c1, u2, .pointer (some ⟨db, 0, none⟩), .pointer (some ⟨lb, 0, none⟩), c5, .string T, va, .int .i64 sf, vn, .int .i64 k, u11, u12, u13, u14, u15, u16, u17, u18, u19, u20, c21, c22, c23, c24, c25, c26, c27, c28, c29, c30, c31, c32, c33, c34, c35, u36, u37, u38, u39, u40, u41, u42, u43, u44, u45, u46, u47, u48, u49, u50, u51, u52, u53, u54, u55, u56, u57, u58, u59, u60, u61, u62, u63, u64, u65, u66, u67, u68, u69, u70, u71, u72, u73, u74, u75, u76, u77, u78, u79, u80, u81, u82, u83, u84, u85, u86, u87, u88, u89, u90, u91, u92, u93, u94, u95, u96, u97, u98, u99, u100, u101, u102, u103, u104, u105, u106, u107, u108, u109, u110, u111, u112, u113, u114, u115, u116, u117, u118, u119, u120, u121, u122, u123, u124, u125, u126, u127, u128, u129, u130, u131, u132, u133, u134, u135, u136, u137, u138, u139, u140, u141, u142, u143, u144, u145, u146, u147, u148, u149, u150, u151, u152, u153, u154, u155, u156, u157, u158, u159, u160, u161, u162, u163, u164, u165, u166, u167, u168, u169, u170, u171, u172, u173, u174, u175, u176, u177, u178, u179, u180, u181, u182, u183, u184, u185, u186, u187, u188, u189, u190, u191, u192, u193, u194, u195, u196, u197, u198, u199, u200, u201, u202, u203, u204, u205, u206, u207], []⟩ wr := by
  conv => arg 2; whnf
  have hbw : Below w.heap.size w wr := G.bthen HB1.out (by rw [← HB.out]; exact hX.bel)
  obtain ⟨_, A', c', hv, hlc, _, hcell⟩ := HR.out
  cases hv
  obtain ⟨ad, rfl, e0⟩ := hcell _ _ (aws_at l k hkl).1
  have cc : ∀ j u, (l.flatMap awc)[j]? = some u → wr.cell? (ad.add j) = some u := fun j u hj => by
    obtain ⟨ad', ha, hc⟩ := hcell j u hj
    cases ha
    exact G.cell_below hbw hc
  obtain ⟨x, hx⟩ : ∃ x, x = l[k] := ⟨_, rfl⟩
  have hx0 := hx
  have e0 := cc _ _ (aws_at l k hkl).1
  have e1 := cc _ _ (aws_at l k hkl).2.1
  have e2 := cc _ _ (aws_at l k hkl).2.2.1
  have e3 := cc _ _ (aws_at l k hkl).2.2.2
  have hax := HA.out _ (List.getElem_mem hkl)
  rw [← hx] at e0 e1 e2 e3 hax
  rw [add_off _ _ _ (by decide)] at e1 e2 e3
  have CX := cutW_any x wr hax.cap hax.s
  obtain ⟨y, hy⟩ : ∃ y, y = cutW x := ⟨_, rfl⟩
  have hy0 := hy
  have hyk := cutW_ok hax
  rw [← hy] at CX hyk
  have HYP : Hid (y.picks = P) := Lib.hid (by rw [hy0, hx0]; exact hP)
  have HKD : Hid (y.kind = l[k].kind) := Lib.hid (by rw [hy0, hx0]; rfl)
  obtain ⟨kd, yn, ys, yp, YA, yc⟩ := y
  unfold awv at CX
  have HCX := Lib.hid CX
  have HY := Lib.hid hyk
  have HX := Lib.hid hX
  have HOk := Lib.hid hOk
  have HI := Lib.hid hI
  have HBd := Lib.hid hBd
  have HSz := Lib.hid hSm
  have Hbw := Lib.hid hbw
  obtain ⟨AL, al, rfl⟩ := owns_shape hX.ra
  obtain ⟨NL, nl, rfl⟩ := owns_shape hX.rn
  obtain ⟨na, hna⟩ : ∃ na, na = all.length := ⟨_, rfl⟩
  obtain ⟨nn, hnn⟩ : ∃ nn, nn = next.length := ⟨_, rfl⟩
  rw [← hna] at HX hal ⊢
  rw [← hnn] at HX hnx ⊢
  have HNa := Lib.hid hna
  have HNn := Lib.hid hnn
  clear hP cc hcell hX hOk hI hBd hSm hbw hx hax hy hyk CX hna hnn hx0 hy0
  go_upto_region 17 with (go_at_call 41; refine HCX.out.mono ?_; rintro e wa ⟨rfl, hba⟩)
  obtain ⟨wd, hwd⟩ : ∃ wd, wd = wa.alloc (.cells #[.int .i64 kd, .int .i64 yn, .string ys, .slice YA yp.length yc] 63) := ⟨_, rfl⟩
  have hXa := HX.out.low hba
  have HXd : Hid (WX B db m lb s L v (.slice AL na al) all (.slice NL nn nl) next w1 wd) := Lib.hid (hwd ▸ hXa.low (bel_allocT _ _))
  have HKd : Hid (KX db m lb v (.slice AL na al) (.slice NL nn nl) wd wa.heap.size (.cells #[.int .i64 kd, .int .i64 yn, .string ys, .slice YA yp.length yc] 63 (0, 0))) := Lib.hid (hwd ▸ KX.new hXa _)
  have Hbd : Hid (Below w.heap.size w wd) := Lib.hid (G.bthen HB1.out (by rw [← HB.out]; exact HXd.out.bel))
  rw [← hwd]
  obtain ⟨xb, hxb⟩ : ∃ xb, xb = wa.heap.size := ⟨_, rfl⟩
  rw [← hxb] at HKd ⊢
  have hx := HKd.out.is
  have hlx := HKd.out.lt
  have b0 : wd.cell? ⟨xb, 0, none⟩ = some (.int .i64 kd) := by simp [World.cell?, hx]
  have b1 : wd.cell? ⟨xb, 1, none⟩ = some (.int .i64 yn) := by simp [World.cell?, hx]
  have b2 : wd.cell? ⟨xb, 2, none⟩ = some (.string ys) := by simp [World.cell?, hx]
  have b3 : wd.cell? ⟨xb, 3, none⟩ = some (.slice YA yp.length yc) := by simp [World.cell?, hx]
  clear hwd hba hXa hx hxb e0 e1 e2 e3
  have hys : ys.size ≤ 300 := HY.out.2.1
  have hkq : kd = l[k].kind := HKD.out
  have q1 : (kd == 1) = false := by rw [hkq]; simpa using hk1
  have q2 : (kd == 2) = false := by rw [hkq]; simpa using hk2'
  have q3 : (kd == 3) = false := by rw [hkq]; simpa using hk3
  have q4 : (kd == 4) = false := by rw [hkq]; simpa using hk4
  have q5 : (kd == 5) = false := by rw [hkq]; simpa using hk5
  clear hkq hk1 hk2' hk3 hk4 hk5
  obtain rfl : yp = P := HYP.out
  have HCO := on_any B db m s wd HXd.out.wi.t.d
  rw [hoff] at HCO
  replace HCO := Lib.hid HCO
  have hnr : r1.length ≤ 100 := by have := HF.out.len; have h2 : r1.length ≤ k + 1 := this; omega
  have HPk := pk_of HY.out.1.at_ Hbd.out (Nat.le_trans (by rw [HB.out]; exact HB1.out.size) HXd.out.wi.t.d.hB) (Nat.le_trans (by rw [HB.out]; exact HB1.out.size) HXd.out.wi.t.d.hm)
  have hcs := start_any B db m s YA yc yp wd HXd.out.wi.t.d (HOk.out.bd (by omega)) HOk.out.nd HOk.out.rng HPk (by have h2 : yp.length ≤ 10 := HY.out.2.2; omega) HY.out.1.cap
  rw [HF.out.e] at hcs
  have HCS := Lib.hid hcs
  clear hoff hcs HPk
  go_upto_region 19 with (first | (go_at_call 43; refine HCO.out.mono ?_; rintro e wx ⟨rfl, rfl⟩) | (go_at_call 44; refine HCS.out.mono ?_; rintro e w2 ⟨rfl, hs2⟩))
  have HX2 := Lib.hid (HXd.out.dstep hs2)
  have hc1 := Open_any B db m (staS s yp) (300 * (k + 1) + 1) w2 HX2.out.wi.t HF.out.k1 (by omega) HF.out.l1.on HF.out.m1
  rw [HF.out.o1] at hc1
  have HC1 : Hid (Calls Tryd.prog 32 #[.pointer (some ⟨db, 0, none⟩)] w2 fun e w' => ∃ ptr, e = .returned (.tuple #[ptr, .int .i64 0]) ∧ DStep B db m w2 s2 w' ∧ ∃ lb v, ptr = .pointer (some ⟨lb, 0, none⟩) ∧ LInv w2.heap.size db lb ⟨g1, t1, r1, l1, p1, o1⟩ v w') := Lib.hid hc1
  have HC2 : Hid (∀ V, DT B db m s2 V → Calls Tryd.prog 32 #[.pointer (some ⟨db, 0, none⟩)] V fun e w' => ∃ ptr, e = .returned (.tuple #[ptr, .int .i64 0]) ∧ DStep B db m V s3 w' ∧ ∃ lb v, ptr = .pointer (some ⟨lb, 0, none⟩) ∧ LInv V.heap.size db lb ⟨g1, t1, r1, l1, p1, o1⟩ v w') := Lib.hid (fun V hV => by
    have := Open_any B db m s2 (300 * (k + 1) + 113) V hV HF.out.k2 (by omega) HF.out.l2.on HF.out.m2
    rw [HF.out.o2] at this
    exact this)
  clear hs2 hc1 b0 b1 b2 b3 hlx q1 q2 q3 q4 q5
  go_upto_region 22 with (go_at_call 32; refine HC1.out.mono ?_; rintro e w3 ⟨ptr, rfl, hs3, lb1, v1, rfl, hL3⟩)
  have HX3 : Hid (WX B db m lb1 s2 ⟨g1, t1, r1, l1, p1, o1⟩ v1 (.slice AL na al) all (.slice NL nn nl) next w1 w3) := Lib.hid (HX2.out.log hs3 hL3)
  clear hs3 hL3
  have HCR := Lib.hid (Records_any B db m lb1 _ _ v1 w3 HX3.out.wi (by show r1.length ≤ 1000000; omega))
  go_upto_region 23 with (go_at_call 37; refine HCR.out.mono ?_; rintro e w4 ⟨rv, rfl, hor, hb4⟩)
  replace hor : w4.ownsRow w3.heap.size 9 1 rv r1.length (strs r1) := hor
  obtain ⟨RA, rc, rfl⟩ := owns_shape hor
  have HOr := Lib.hid hor
  have HB4 := Lib.hid hb4
  have HX4 := Lib.hid (HX3.out.low hb4)
  have HTx : Hid (∀ V, Below w4.heap.size w4 V → Calls Tryd.prog 36 #[.pointer (some ⟨lb1, 0, none⟩)] V fun e w' => e = .returned (.string t1) ∧ w' = V) := Lib.hid (fun V hV => Text_any B db m lb1 _ _ v1 V (HX4.out.low hV).wi)
  clear hor hb4
  have hs8 := str_other hT
  go_upto_region 24 with ((go_at_call 36; refine (HTx.out w4 (Below.refl _ _)).mono ?_; rintro e wx ⟨rfl, hq⟩; have hq' := hq.symm; clear hq; subst hq'))
  obtain ⟨w5, hw5⟩ : ∃ w5, w5 = w4 := ⟨_, rfl⟩
  have hb5 : Below w4.heap.size w4 w5 := by rw [hw5]; exact Below.refl _ _
  rw [← hw5]
  clear hw5
  have HB5 := Lib.hid hb5
  have HX5 := Lib.hid (HX4.out.low hb5)
  have HTq : Hid (∀ q, Calls Tryd.prog 36 #[.pointer (some ⟨lb1, 0, none⟩)] (w5.drewN q) fun e w' => e = .returned (.string t1) ∧ w' = w5.drewN q) := Lib.hid (fun q => HTx.out _ (G.bdrewN HB5.out q))
  obtain ⟨pre, hpre⟩ := last_split hlast
  have hn9 : nn = pre.length + 1 := by rw [HNn.out, hpre, List.length_append]; rfl
  obtain ⟨np, hnp⟩ : ∃ np, np = pre.length := ⟨_, rfl⟩
  rw [← hnp] at hn9
  subst hn9
  have hrn := HX5.out.rn
  have hlen9 : next.length = np + 1 := HNn.out.symm
  rw [hlen9] at hrn
  obtain ⟨_, _, _, hvl, _, _, hcl⟩ := G.HasRow.of_owns hrn
  cases hvl
  obtain ⟨adN, hadN, eN⟩ := hcl np (.string t1) (by rw [hpre, strs_append, List.getElem?_append_right (by rw [strs_length]; omega), strs_length, hnp, Nat.sub_self]; rfl)
  subst hadN
  have hpos : (0 : Int) < (np : Int) + 1 := by omega
  have hnp9 : np ≤ 1000 := by have := hnx; omega
  clear hcl hrn hpre hnp hlen9
  have hr0 : ((r1.length : Int) == 0) = true := by rw [HR1.out]; rfl
  go_quiet ((go_at_call 36; exact Calls.quiet_of_same (HTq.out _)))
  generalize hz6 : w5.drewN nq = w6
  have hb6 : Below w4.heap.size w4 w6 := by rw [← hz6]; exact G.bdrewN HB5.out nq
  have HB6 := Lib.hid hb6
  have HX6 := Lib.hid (HX4.out.low hb6)
  clear hb6 hz6 hb5
  go_upto_region 28 with (go_at_call 32; refine (HC2.out w6 HX6.out.wi.t).mono ?_; rintro e w7 ⟨ptr, rfl, hs7, lb2, v7, rfl, hL7⟩)
  have HS7 := Lib.hid hs7
  have HL7 := Lib.hid hL7
  have HX7 := Lib.hid (HX6.out.log hs7 hL7)
  have HX7v := Lib.hid (off_final HX3.out HB4.out HOr.out HB6.out hs7 hL7 (Below.refl _ _)).2.2
  have HTu : Hid (Calls Tryd.prog 36 #[.pointer (some ⟨lb2, 0, none⟩)] w7 fun e w' => e = .returned (.string t1) ∧ w7 = w') := Lib.hid ((Text_any B db m lb2 _ _ v7 w7 HX7.out.wi).mono fun _ _ ⟨a, b⟩ => ⟨a, b.symm⟩)
  have HTv : Hid (∀ V, Below w7.heap.size w7 V → Calls Tryd.prog 36 #[.pointer (some ⟨lb1, 0, none⟩)] V fun e w' => e = .returned (.string t1) ∧ V = w') := Lib.hid (fun V hV => (Text_any B db m lb1 _ _ v1 V (HX7v.out.low hV).wi).mono fun _ _ ⟨a, b⟩ => ⟨a, b.symm⟩)
  have HRu := Lib.hid (Records_any B db m lb2 _ _ v7 w7 HX7.out.wi (by show r1.length ≤ 1000000; omega))
  have HGu : Hid (∀ V, Below w7.heap.size w7 V → Calls Tryd.prog 38 #[.pointer (some ⟨lb2, 0, none⟩)] V fun e w' => e = .returned (.int .i64 g1) ∧ V = w') := Lib.hid (fun V hV => (Generation_any B db m lb2 _ _ v7 V (HX7.out.low hV).wi).mono fun _ _ ⟨a, b⟩ => ⟨a, b.symm⟩)
  have HGv : Hid (∀ V, Below w7.heap.size w7 V → Calls Tryd.prog 38 #[.pointer (some ⟨lb1, 0, none⟩)] V fun e w' => e = .returned (.int .i64 g1) ∧ V = w') := Lib.hid (fun V hV => (Generation_any B db m lb1 _ _ v1 V (HX7v.out.low hV).wi).mono fun _ _ ⟨a, b⟩ => ⟨a, b.symm⟩)
  clear hs7 hL7
  go_upto_region 30 with (first
    | (go_at_call_of 36 (Value.pointer (some ⟨lb2, 0, none⟩)); refine HTu.out.mono ?_; rintro e wx ⟨rfl, rfl⟩)
    | (go_at_call_of 36 (Value.pointer (some ⟨lb1, 0, none⟩)); refine (HTv.out _ (Below.refl _ _)).mono ?_; rintro e wx ⟨rfl, rfl⟩)
    | (go_at_call 37; refine HRu.out.mono ?_; rintro e w8 ⟨ru, rfl, hou, hb8⟩; have hfin := off_final HX3.out HB4.out HOr.out HB6.out HS7.out HL7.out hb8; have hsm := same_yes ru (.slice RA r1.length rc) r1 w8 (G.HasRow.of_owns hou) (G.HasRow.of_owns hfin.1); have HSm := Lib.hid hsm; have HB8 := Lib.hid hb8; clear hou hb8 hfin hsm)
    | (go_at_call 27; refine HSm.out.mono ?_; rintro e w9 ⟨rfl, hb9⟩; have HB9 := Lib.hid (G.bthen HB8.out hb9); clear hb9)
    | (go_at_call_of 38 (Value.pointer (some ⟨lb2, 0, none⟩)); refine (HGu.out _ HB9.out).mono ?_; rintro e wx ⟨rfl, rfl⟩)
    | (go_at_call_of 38 (Value.pointer (some ⟨lb1, 0, none⟩)); refine (HGv.out _ HB9.out).mono ?_; rintro e wx ⟨rfl, rfl⟩))
  have HX9 := Lib.hid (off_final HX3.out HB4.out HOr.out HB6.out HS7.out HL7.out HB9.out).2.1
  have HXz := Lib.hid HX9.out.noneN
  go_wp2_with (go_at_call_of 36 (Value.pointer (some ⟨lb1, 0, none⟩)); refine (HTv.out _ HB9.out).mono ?_; rintro e wx ⟨rfl, rfl⟩)
  refine ⟨?_, by simp [mu, intOf]; omega⟩
  refine ⟨_, _, _, _, _, _, _, _, _, _, _, _, _, _, _, _, _, _, _, _, _, _, _, _, _, _, _, _, _, _, _, _, _, _, _, _, _, _, _, _, _, _, _, _, _, _, _, _, _, _, _, _, _, _, _, _, _, _, _, _, _, _, _, _, _, _, _, _, _, _, _, _, _, _, _, _, _, _, _, _, _, _, _, _, _, _, _, _, _, _, _, _, _, _, _, _, _, _, _, _, _, _, _, _, _, _, _, _, _, _, _, _, _, _, _, _, _, _, _, _, _, _, _, _, _, _, _, _, _, _, _, _, _, _, _, _, _, _, _, _, _, _, _, _, _, _, _, _, _, _, _, _, _, _, _, _, _, _, _, _, _, _, _, _, _, _, _, _, _, _, _, _, _, _, _, _, _, _, _, _, _, _, _, _, _, _, _, _, _, ?_, rfl⟩
  exact ⟨k + 1, lb2, t1, r1.length, by omega, by omega, by go_num, rfl, rfl, rfl, Lib.hid ⟨_, _, _, _, _, HXz.out, HF.out.k3, HF.out.inv, HF.out.bnd, HF.out.len, Nat.zero_le _, HF.out.m3⟩⟩
end Go.Proofs.YtdmjbdecemajpaaDoor.D
