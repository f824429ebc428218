/- The walk of WalLasts: K3. -/
import Derived.Test.YtdmjbdecemajpaaDoorWmAm
namespace Go.Proofs.YtdmjbdecemajpaaDoor.D
set_option linter.unusedVariables false
set_option linter.unusedSimpArgs false
open Go.RowKit
set_option maxRecDepth 1000000 in
set_option maxHeartbeats 16000000 in
theorem round_K3 (l : List Aw) (A : Option Addr) (n c db m B : Nat) (w w1 : World) (Hn : Hid (n = l.length)) (hn0 : n ≤ 140737488351232) (HA : Hid (∀ x ∈ l, AwOk w x)) (HR : Hid (G.HasRow w 4 (.slice A n c) n (l.flatMap awc))) (HB1 : Hid (Below w.heap.size w w1)) (HB : Hid (B = w1.heap.size)) (Q0 : Exit → Act → World → Prop) (c1 c5 c21 c22 c23 c24 c25 c26 c27 c28 c29 c30 c31 c32 c33 c34 c35 : Value) (u2 u11 u12 u13 u14 u15 u16 u17 u18 u19 u20 u36 u37 u38 u39 u40 u41 u42 u43 u44 u45 u46 u47 u48 u49 u50 u51 u52 u53 u54 u55 u56 u57 u58 u59 u60 u61 u62 u63 u64 u65 u66 u67 u68 u69 u70 u71 u72 u73 u74 u75 u76 u77 u78 u79 u80 u81 u82 u83 u84 u85 u86 u87 u88 u89 u90 u91 u92 u93 u94 u95 u96 u97 u98 u99 u100 u101 u102 u103 u104 u105 u106 u107 u108 u109 u110 u111 u112 u113 u114 u115 u116 u117 u118 u119 u120 u121 u122 u123 u124 u125 u126 u127 u128 u129 u130 u131 u132 u133 u134 u135 u136 u137 u138 u139 u140 u141 u142 u143 u144 u145 u146 u147 u148 u149 u150 u151 u152 u153 u154 u155 u156 u157 u158 u159 u160 u161 u162 u163 u164 u165 u166 u167 u168 u169 u170 u171 u172 u173 u174 u175 u176 u177 u178 u179 u180 u181 u182 u183 u184 u185 u186 u187 u188 u189 u190 u191 u192 u193 u194 u195 u196 u197 u198 u199 u200 u201 u202 u203 u204 u205 u206 u207 : Value) (wr : World) (k lb : Nat) (T : ByteArray) (sf : Nat) (s : DS) (L : LS) (v va vn : Value) (all next : List ByteArray) (hkn : k < n) (hk2 : k < 80) (hX : WX B db m lb s L v va all vn next w1 wr) (hOk : Okk s (300 * (k + 1))) (hI : Inv s L T all sf next) (hBd : Bnd L k) (hal : all.length ≤ k) (hnx : next.length ≤ k) (hSm : Sm s (1000 + 308 * (k + 1))) (hkl : k < l.length) (hkd : l[k].kind = 3) :
    Code.wp Tryd.prog lbody (Exit.then (fun a' w' => FI B db m n c A w1 c1 c5 c21 c22 c23 c24 c25 c26 c27 c28 c29 c30 c31 c32 c33 c34 c35 a' w' ∧ mu n a' < mu n ⟨#[.slice A n c, c1, u2, .pointer (some ⟨db, 0, none⟩), .pointer (some ⟨lb, 0, none⟩), c5, .string T, va, .int .i64 sf, vn, .int .i64 k, u11, u12, u13, u14, u15, u16, u17, u18, u19, u20, c21, c22, c23, c24, c25, c26, c27, c28, c29, c30, c31, c32, c33, c34, c35, u36, u37, u38, u39, u40, u41, u42, u43, u44, u45, u46, u47, u48, u49, u50, u51, u52, u53, u54, u55, u56, u57, u58, u59, u60, u61, u62, u63, u64, u65, u66, u67, u68, u69, u70, u71, u72, u73, u74, u75, u76, u77, u78, u79, u80, u81, u82, u83, u84, u85, u86, u87, u88, u89, u90, u91, u92, u93, u94, u95, u96, u97, u98, u99, u100, u101, u102, u103, u104, u105, u106, u107, u108, u109, u110, u111, u112, u113, u114, u115, u116, u117, u118, u119, u120, u121, u122, u123, u124, u125, u126, u127, u128, u129, u130, u131, u132, u133, u134, u135, u136, u137, u138, u139, u140, u141, u142, u143, u144, u145, u146, u147, u148, u149, u150, u151, u152, u153, u154, u155, u156, u157, u158, u159, u160, u161, u162, u163, u164, u165, u166, u167, u168, u169, u170, u171, u172, u173, u174, u175, u176, u177, u178, u179, u180, u181, u182, u183, u184, u185, u186, u187, u188, u189, u190, u191, u192, u193, u194, u195, u196, u197, u198, u199, u200, u201, u202, u203, u204, u205, u206, u207], []⟩) Q0) ⟨#[.slice A n c, c1, u2, .pointer (some ⟨db, 0, none⟩), .pointer (some ⟨lb, 0, none⟩), c5, .string T, va, .int .i64 sf, vn, .int .i64 k, u11, u12, u13, u14, u15, u16, u17, u18, u19, u20, c21, c22, c23, c24, c25, c26, c27, c28, c29, c30, c31, c32, c33, c34, c35, u36, u37, u38, u39, u40, u41, u42, u43, u44, u45, u46, u47, u48, u49, u50, u51, u52, u53, u54, u55, u56, u57, u58, u59, u60, u61, u62, u63, u64, u65, u66, u67, u68, u69, u70, u71, u72, u73, u74, u75, u76, u77, u78, u79, u80, u81, u82, u83, u84, u85, u86, u87, u88, u89, u90, u91, u92, u93, u94, u95, u96, u97, u98, u99, u100, u101, u102, u103, u104, u105, u106, u107, u108, u109, u110, u111, u112, u113, u114, u115, u116, u117, u118, u119, u120, u121, u122, u123, u124, u125, u126, u127, u128, u129, u130, u131, u132, u133, u134, u135, u136, u137, u138, u139, u140, u141, u142, u143, u144, u145, u146, u147, u148, u149, u150, u151, u152, u153, u154, u155, u156, u157, u158, u159, u160, u161, u162, u163, u164, u165, u166, u167, u168, u169, u170, u171, u172, u173, u174, u175, u176, u177, u178, u179, u180, u181, u182, u183, u184, u185, u186, u187, u188, u189, u190, u191, u192, u193, u194, u195, u196, u197, u198, u199, u200, u201, u202, u203, u204, u205, u206, u207], []⟩ wr := by
  conv => arg 2; whnf
  have hbw : Below w.heap.size w wr := G.bthen HB1.out (by rw [← HB.out]; exact hX.bel)
  obtain ⟨_, A', c', hv, hlc, _, hcell⟩ := HR.out
  cases hv
  obtain ⟨ad, rfl, e0⟩ := hcell _ _ (aws_at l k hkl).1
  have cc : ∀ j u, (l.flatMap awc)[j]? = some u → wr.cell? (ad.add j) = some u := fun j u hj => by
    obtain ⟨ad', ha, hc⟩ := hcell j u hj
    cases ha
    exact G.cell_below hbw hc
  obtain ⟨x, hx⟩ : ∃ x, x = l[k] := ⟨_, rfl⟩
  have hx0 := hx
  have e0 := cc _ _ (aws_at l k hkl).1
  have e1 := cc _ _ (aws_at l k hkl).2.1
  have e2 := cc _ _ (aws_at l k hkl).2.2.1
  have e3 := cc _ _ (aws_at l k hkl).2.2.2
  have hax := HA.out _ (List.getElem_mem hkl)
  rw [← hx] at e0 e1 e2 e3 hax
  rw [add_off _ _ _ (by decide)] at e1 e2 e3
  have CX := cutW_any x wr hax.cap hax.s
  obtain ⟨y, hy⟩ : ∃ y, y = cutW x := ⟨_, rfl⟩
  have hy0 := hy
  have hyk := cutW_ok hax
  rw [← hy] at CX hyk
  have HKD : Hid (y.kind = 3) := Lib.hid (by rw [hy0, hx0]; exact hkd)
  obtain ⟨kd, yn, ys, yp, YA, yc⟩ := y
  unfold awv at CX
  have HCX := Lib.hid CX
  have HY := Lib.hid hyk
  have HX := Lib.hid hX
  have HOk := Lib.hid hOk
  have HI := Lib.hid hI
  have HBd := Lib.hid hBd
  have HSz := Lib.hid hSm
  have Hbw := Lib.hid hbw
  obtain ⟨AL, al, rfl⟩ := owns_shape hX.ra
  obtain ⟨NL, nl, rfl⟩ := owns_shape hX.rn
  obtain ⟨na, hna⟩ : ∃ na, na = all.length := ⟨_, rfl⟩
  obtain ⟨nn, hnn⟩ : ∃ nn, nn = next.length := ⟨_, rfl⟩
  rw [← hna] at HX hal ⊢
  rw [← hnn] at HX hnx ⊢
  have HNa := Lib.hid hna
  have HNn := Lib.hid hnn
  clear hkd cc hcell hX hOk hI hBd hSm hbw hx hax hy hyk CX hna hnn hx0 hy0
  go_upto_region 17 with (go_at_call 41; refine HCX.out.mono ?_; rintro e wa ⟨rfl, hba⟩)
  obtain ⟨wd, hwd⟩ : ∃ wd, wd = wa.alloc (.cells #[.int .i64 kd, .int .i64 yn, .string ys, .slice YA yp.length yc] 63) := ⟨_, rfl⟩
  have hXa := HX.out.low hba
  have HXd : Hid (WX B db m lb s L v (.slice AL na al) all (.slice NL nn nl) next w1 wd) := Lib.hid (hwd ▸ hXa.low (bel_allocT _ _))
  have HKd : Hid (KX db m lb v (.slice AL na al) (.slice NL nn nl) wd wa.heap.size (.cells #[.int .i64 kd, .int .i64 yn, .string ys, .slice YA yp.length yc] 63 (0, 0))) := Lib.hid (hwd ▸ KX.new hXa _)
  have Hbd : Hid (Below w.heap.size w wd) := Lib.hid (G.bthen HB1.out (by rw [← HB.out]; exact HXd.out.bel))
  rw [← hwd]
  obtain ⟨xb, hxb⟩ : ∃ xb, xb = wa.heap.size := ⟨_, rfl⟩
  rw [← hxb] at HKd ⊢
  have hx := HKd.out.is
  have hlx := HKd.out.lt
  have b0 : wd.cell? ⟨xb, 0, none⟩ = some (.int .i64 kd) := by simp [World.cell?, hx]
  have b1 : wd.cell? ⟨xb, 1, none⟩ = some (.int .i64 yn) := by simp [World.cell?, hx]
  have b2 : wd.cell? ⟨xb, 2, none⟩ = some (.string ys) := by simp [World.cell?, hx]
  have b3 : wd.cell? ⟨xb, 3, none⟩ = some (.slice YA yp.length yc) := by simp [World.cell?, hx]
  clear hwd hba hXa hx hxb e0 e1 e2 e3
  have hys : ys.size ≤ 300 := HY.out.2.1
  have hkd2 : kd = 3 := HKD.out
  subst hkd2
  have CA := Renew_any B db m lb s L v (300 * (k + 1)) ys wd HXd.out.wi HOk.out (by omega) HBd.out.gen (by have := HBd.out.last; omega) (by omega)
  have hI1 := renew_step HOk.out HI.out ys hys
  have hO1 := HOk.out.wre L ys (by have := HBd.out.last; omega)
  have hB1 := HBd.out.wre (s := s) ys
  have hS1 := HSz.out.wre HOk.out L ys hys
  obtain ⟨E, hE⟩ : ∃ E, wreE s L ys = E := ⟨_, rfl⟩
  obtain ⟨s1, hs1⟩ : ∃ s1, wreS s L ys = s1 := ⟨_, rfl⟩
  obtain ⟨L1, hL1⟩ : ∃ L1, wreL s L ys = L1 := ⟨_, rfl⟩
  rw [hE, hs1, hL1] at CA
  rw [hE, hs1, hL1] at hI1
  rw [hs1] at hO1 hS1
  rw [hL1] at hB1
  have HCA := Lib.hid CA
  have HI1 := Lib.hid hI1
  have HO1 := Lib.hid hO1
  have HB1' := Lib.hid hB1
  have HS1 := Lib.hid hS1
  clear CA hI1 hO1 hB1 hS1 hE hs1 hL1
  go_upto_region 46 with (go_at_call 35; refine HCA.out.mono ?_; rintro e w2 ⟨rfl, hs2⟩)
  obtain ⟨v2, hx2, hk2⟩ := HXd.out.step hs2
  have HX2 := Lib.hid hx2
  have HK2 := Lib.hid (hk2 _ _ HKd.out)
  clear hs2 hx2 hk2 b0 b1 b2 b3 hlx
  have hx2 := HK2.out.is
  have hl2 := HK2.out.lt
  have b2 : w2.cell? ⟨xb, 2, none⟩ = some (.string ys) := by simp [World.cell?, hx2]
  clear hx2
  by_cases hE0 : E = 0
  · have HI3 := Lib.hid (HI1.out.1 hE0)
    subst hE0
    have HX5 := Lib.hid HX2.out.noneA
    go_wp2_with (fail)
    refine ⟨?_, by simp [mu, intOf]; omega⟩
    refine ⟨_, _, _, _, _, _, _, _, _, _, _, _, _, _, _, _, _, _, _, _, _, _, _, _, _, _, _, _, _, _, _, _, _, _, _, _, _, _, _, _, _, _, _, _, _, _, _, _, _, _, _, _, _, _, _, _, _, _, _, _, _, _, _, _, _, _, _, _, _, _, _, _, _, _, _, _, _, _, _, _, _, _, _, _, _, _, _, _, _, _, _, _, _, _, _, _, _, _, _, _, _, _, _, _, _, _, _, _, _, _, _, _, _, _, _, _, _, _, _, _, _, _, _, _, _, _, _, _, _, _, _, _, _, _, _, _, _, _, _, _, _, _, _, _, _, _, _, _, _, _, _, _, _, _, _, _, _, _, _, _, _, _, _, _, _, _, _, _, _, _, _, _, _, _, _, _, _, _, _, _, _, _, _, _, _, _, _, _, _, ?_, rfl⟩
    exact ⟨k + 1, lb, ys, 0, by omega, by omega, by go_num, rfl, rfl, by go_num, Lib.hid ⟨_, _, _, _, _, HX5.out, HO1.out.mono (by omega), HI3.out, HB1'.out.mono (by omega), Nat.zero_le _, by rw [← HNn.out]; omega, HS1.out.mono (by omega)⟩⟩
  · by_cases hE6 : E = 6
    · have HI3 := Lib.hid (HI1.out.2.1 hE6)
      clear hE0
      subst hE6
      have HXa := Lib.hid (HX2.out.low (bel_allocT w2 (.cells #[.string ys] 9)))
      have HXl := Lib.hid (World.ownsRow_lit (base := 0) (e := 9) (size := 1) w2 #[.string ys] 1 (Nat.zero_le _) (by unfold maxLen; omega) rfl)
      have hrow : (w2.alloc (.cells #[.string ys] 9)).ownsRow B 9 1 (.slice NL nn nl) nn (strs next) := by have := HXa.out.rn; rw [← HNn.out] at this; exact this
      have HRow := Lib.hid hrow
      clear hrow
      go_wp2_with (at_builtin; refine app_own rfl (.tmp 193) (.tmp 196) 41 9 rfl B 0 1 16 _ Tryd.underlying41 info9 rfl (by decide) (.slice NL nn nl) nn (strs next) rfl HRow.out (.slice (some ⟨w2.heap.size, 0, none⟩) 1 1) 1 [.string ys] rfl HXl.out (one_str ys) (by unfold maxLen; omega) (by omega) HXa.out.size ?_; intro v5 w5 hown5 hg5 hat5; have hx5 := HXa.out.appN hg5 (next' := next ++ [ys]) (by rw [strs_append]; exact hown5) (by rw [List.length_append, ← HNn.out]; rfl) hat5; obtain ⟨A5, q5, rfl⟩ := owns_shape hown5; have HX5 := Lib.hid hx5; clear hown5 hg5 hat5 hx5)
      refine ⟨?_, by simp [mu, intOf]; omega⟩
      refine ⟨_, _, _, _, _, _, _, _, _, _, _, _, _, _, _, _, _, _, _, _, _, _, _, _, _, _, _, _, _, _, _, _, _, _, _, _, _, _, _, _, _, _, _, _, _, _, _, _, _, _, _, _, _, _, _, _, _, _, _, _, _, _, _, _, _, _, _, _, _, _, _, _, _, _, _, _, _, _, _, _, _, _, _, _, _, _, _, _, _, _, _, _, _, _, _, _, _, _, _, _, _, _, _, _, _, _, _, _, _, _, _, _, _, _, _, _, _, _, _, _, _, _, _, _, _, _, _, _, _, _, _, _, _, _, _, _, _, _, _, _, _, _, _, _, _, _, _, _, _, _, _, _, _, _, _, _, _, _, _, _, _, _, _, _, _, _, _, _, _, _, _, _, _, _, _, _, _, _, _, _, _, _, _, _, _, _, _, _, _, ?_, rfl⟩
      exact ⟨k + 1, lb, T, sf, by omega, by omega, by go_num, rfl, rfl, rfl, Lib.hid ⟨_, _, _, _, _, HX5.out, HO1.out.mono (by omega), HI3.out, HB1'.out.mono (by omega), by rw [← HNa.out]; omega, by rw [List.length_append, ← HNn.out]; show nn + 1 ≤ _; omega, HS1.out.mono (by omega)⟩⟩
    · have HI3 := Lib.hid (HI1.out.2.2 hE0 hE6)
      have hE1 : (E == 0) = false := by simpa using hE0
      have hE2 : (E == 6) = false := by simpa using hE6
      go_wp2_with (fail)
      refine ⟨?_, by simp [mu, intOf]; omega⟩
      refine ⟨_, _, _, _, _, _, _, _, _, _, _, _, _, _, _, _, _, _, _, _, _, _, _, _, _, _, _, _, _, _, _, _, _, _, _, _, _, _, _, _, _, _, _, _, _, _, _, _, _, _, _, _, _, _, _, _, _, _, _, _, _, _, _, _, _, _, _, _, _, _, _, _, _, _, _, _, _, _, _, _, _, _, _, _, _, _, _, _, _, _, _, _, _, _, _, _, _, _, _, _, _, _, _, _, _, _, _, _, _, _, _, _, _, _, _, _, _, _, _, _, _, _, _, _, _, _, _, _, _, _, _, _, _, _, _, _, _, _, _, _, _, _, _, _, _, _, _, _, _, _, _, _, _, _, _, _, _, _, _, _, _, _, _, _, _, _, _, _, _, _, _, _, _, _, _, _, _, _, _, _, _, _, _, _, _, _, _, _, _, ?_, rfl⟩
      exact ⟨k + 1, lb, T, sf, by omega, by omega, by go_num, rfl, rfl, rfl, Lib.hid ⟨_, _, _, _, _, HX2.out, HO1.out.mono (by omega), HI3.out, HB1'.out.mono (by omega), by rw [← HNa.out]; omega, by rw [← HNn.out]; omega, HS1.out.mono (by omega)⟩⟩
end Go.Proofs.YtdmjbdecemajpaaDoor.D
