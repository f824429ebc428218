/- The walk of WalLasts, joined. -/
import Derived.Test.YtdmjbdecemajpaaDoorWrK1m
import Derived.Test.YtdmjbdecemajpaaDoorWrAm
import Derived.Test.YtdmjbdecemajpaaDoorWrK3m
import Derived.Test.YtdmjbdecemajpaaDoorWrDam
import Derived.Test.YtdmjbdecemajpaaDoorWrDbm
import Derived.Test.YtdmjbdecemajpaaDoorWrDcm
import Derived.Test.YtdmjbdecemajpaaDoorWrDdm
import Derived.Test.YtdmjbdecemajpaaDoorWrDem
import Derived.Test.YtdmjbdecemajpaaDoorWrDfm
import Derived.Test.YtdmjbdecemajpaaDoorWn1m
namespace Go.Proofs.YtdmjbdecemajpaaDoor.D
set_option linter.unusedVariables false
set_option linter.unusedSimpArgs false
open Go.RowKit
set_option maxRecDepth 1000000 in
set_option maxHeartbeats 4000000 in
theorem round_exit (l : List Aw) (A : Option Addr) (n c db m B : Nat) (w w1 : World) (Hn : Hid (n = l.length)) (hn0 : n ≤ 140737488351232) (HA : Hid (∀ x ∈ l, AwOk w x)) (HR : Hid (G.HasRow w 4 (.slice A n c) n (l.flatMap awc))) (HB1 : Hid (Below w.heap.size w w1)) (HB : Hid (B = w1.heap.size)) (Q0 : Exit → Act → World → Prop) (c1 c5 c21 c22 c23 c24 c25 c26 c27 c28 c29 c30 c31 c32 c33 c34 c35 : Value) (hexit : ∀ a' w', FX db n c A w c1 c5 c21 c22 c23 c24 c25 c26 c27 c28 c29 c30 c31 c32 c33 c34 c35 a' w' → Q0 (.exit 0) a' w') (u2 u11 u12 u13 u14 u15 u16 u17 u18 u19 u20 u36 u37 u38 u39 u40 u41 u42 u43 u44 u45 u46 u47 u48 u49 u50 u51 u52 u53 u54 u55 u56 u57 u58 u59 u60 u61 u62 u63 u64 u65 u66 u67 u68 u69 u70 u71 u72 u73 u74 u75 u76 u77 u78 u79 u80 u81 u82 u83 u84 u85 u86 u87 u88 u89 u90 u91 u92 u93 u94 u95 u96 u97 u98 u99 u100 u101 u102 u103 u104 u105 u106 u107 u108 u109 u110 u111 u112 u113 u114 u115 u116 u117 u118 u119 u120 u121 u122 u123 u124 u125 u126 u127 u128 u129 u130 u131 u132 u133 u134 u135 u136 u137 u138 u139 u140 u141 u142 u143 u144 u145 u146 u147 u148 u149 u150 u151 u152 u153 u154 u155 u156 u157 u158 u159 u160 u161 u162 u163 u164 u165 u166 u167 u168 u169 u170 u171 u172 u173 u174 u175 u176 u177 u178 u179 u180 u181 u182 u183 u184 u185 u186 u187 u188 u189 u190 u191 u192 u193 u194 u195 u196 u197 u198 u199 u200 u201 u202 u203 u204 u205 u206 u207 : Value) (wr : World) (k lb : Nat) (T : ByteArray) (sf : Nat) (va vn : Value) (hb : Below w.heap.size w wr) (hk : k = n ∨ k = 80) (hkn : k ≤ n) :
    Code.wp Tryd.prog lbody (Exit.then (fun a' w' => FI B db m n c A w1 c1 c5 c21 c22 c23 c24 c25 c26 c27 c28 c29 c30 c31 c32 c33 c34 c35 a' w' ∧ mu n a' < mu n ⟨#[.slice A n c, c1, u2, .pointer (some ⟨db, 0, none⟩), .pointer (some ⟨lb, 0, none⟩), c5, .string T, va, .int .i64 sf, vn, .int .i64 k, u11, u12, u13, u14, u15, u16, u17, u18, u19, u20, c21, c22, c23, c24, c25, c26, c27, c28, c29, c30, c31, c32, c33, c34, c35, u36, u37, u38, u39, u40, u41, u42, u43, u44, u45, u46, u47, u48, u49, u50, u51, u52, u53, u54, u55, u56, u57, u58, u59, u60, u61, u62, u63, u64, u65, u66, u67, u68, u69, u70, u71, u72, u73, u74, u75, u76, u77, u78, u79, u80, u81, u82, u83, u84, u85, u86, u87, u88, u89, u90, u91, u92, u93, u94, u95, u96, u97, u98, u99, u100, u101, u102, u103, u104, u105, u106, u107, u108, u109, u110, u111, u112, u113, u114, u115, u116, u117, u118, u119, u120, u121, u122, u123, u124, u125, u126, u127, u128, u129, u130, u131, u132, u133, u134, u135, u136, u137, u138, u139, u140, u141, u142, u143, u144, u145, u146, u147, u148, u149, u150, u151, u152, u153, u154, u155, u156, u157, u158, u159, u160, u161, u162, u163, u164, u165, u166, u167, u168, u169, u170, u171, u172, u173, u174, u175, u176, u177, u178, u179, u180, u181, u182, u183, u184, u185, u186, u187, u188, u189, u190, u191, u192, u193, u194, u195, u196, u197, u198, u199, u200, u201, u202, u203, u204, u205, u206, u207], []⟩) Q0) ⟨#[.slice A n c, c1, u2, .pointer (some ⟨db, 0, none⟩), .pointer (some ⟨lb, 0, none⟩), c5, .string T, va, .int .i64 sf, vn, .int .i64 k, u11, u12, u13, u14, u15, u16, u17, u18, u19, u20, c21, c22, c23, c24, c25, c26, c27, c28, c29, c30, c31, c32, c33, c34, c35, u36, u37, u38, u39, u40, u41, u42, u43, u44, u45, u46, u47, u48, u49, u50, u51, u52, u53, u54, u55, u56, u57, u58, u59, u60, u61, u62, u63, u64, u65, u66, u67, u68, u69, u70, u71, u72, u73, u74, u75, u76, u77, u78, u79, u80, u81, u82, u83, u84, u85, u86, u87, u88, u89, u90, u91, u92, u93, u94, u95, u96, u97, u98, u99, u100, u101, u102, u103, u104, u105, u106, u107, u108, u109, u110, u111, u112, u113, u114, u115, u116, u117, u118, u119, u120, u121, u122, u123, u124, u125, u126, u127, u128, u129, u130, u131, u132, u133, u134, u135, u136, u137, u138, u139, u140, u141, u142, u143, u144, u145, u146, u147, u148, u149, u150, u151, u152, u153, u154, u155, u156, u157, u158, u159, u160, u161, u162, u163, u164, u165, u166, u167, u168, u169, u170, u171, u172, u173, u174, u175, u176, u177, u178, u179, u180, u181, u182, u183, u184, u185, u186, u187, u188, u189, u190, u191, u192, u193, u194, u195, u196, u197, u198, u199, u200, u201, u202, u203, u204, u205, u206, u207], []⟩ wr := by
  conv => arg 2; whnf
  have HE := Lib.hid hexit
  clear hexit
  rcases hk with rfl | rfl
  · go_wp2_with (fail)
    exact HE.out _ _ ⟨_, _, _, _, _, _, _, _, _, _, _, _, _, _, _, _, _, _, _, _, _, _, _, _, _, _, _, _, _, _, _, _, _, _, _, _, _, _, _, _, _, _, _, _, _, _, _, _, _, _, _, _, _, _, _, _, _, _, _, _, _, _, _, _, _, _, _, _, _, _, _, _, _, _, _, _, _, _, _, _, _, _, _, _, _, _, _, _, _, _, _, _, _, _, _, _, _, _, _, _, _, _, _, _, _, _, _, _, _, _, _, _, _, _, _, _, _, _, _, _, _, _, _, _, _, _, _, _, _, _, _, _, _, _, _, _, _, _, _, _, _, _, _, _, _, _, _, _, _, _, _, _, _, _, _, _, _, _, _, _, _, _, _, _, _, _, _, _, _, _, _, _, _, _, _, _, _, _, _, _, _, _, _, _, _, _, _, _, _, hb, rfl⟩
  · by_cases h80 : 80 < n
    · have h81 : (80 : Int) < n := by omega
      go_wp2_with (fail)
      exact HE.out _ _ ⟨_, _, _, _, _, _, _, _, _, _, _, _, _, _, _, _, _, _, _, _, _, _, _, _, _, _, _, _, _, _, _, _, _, _, _, _, _, _, _, _, _, _, _, _, _, _, _, _, _, _, _, _, _, _, _, _, _, _, _, _, _, _, _, _, _, _, _, _, _, _, _, _, _, _, _, _, _, _, _, _, _, _, _, _, _, _, _, _, _, _, _, _, _, _, _, _, _, _, _, _, _, _, _, _, _, _, _, _, _, _, _, _, _, _, _, _, _, _, _, _, _, _, _, _, _, _, _, _, _, _, _, _, _, _, _, _, _, _, _, _, _, _, _, _, _, _, _, _, _, _, _, _, _, _, _, _, _, _, _, _, _, _, _, _, _, _, _, _, _, _, _, _, _, _, _, _, _, _, _, _, _, _, _, _, _, _, _, _, _, hb, rfl⟩
    · have h81 : ¬ (80 : Int) < n := by omega
      go_wp2_with (fail)
      exact HE.out _ _ ⟨_, _, _, _, _, _, _, _, _, _, _, _, _, _, _, _, _, _, _, _, _, _, _, _, _, _, _, _, _, _, _, _, _, _, _, _, _, _, _, _, _, _, _, _, _, _, _, _, _, _, _, _, _, _, _, _, _, _, _, _, _, _, _, _, _, _, _, _, _, _, _, _, _, _, _, _, _, _, _, _, _, _, _, _, _, _, _, _, _, _, _, _, _, _, _, _, _, _, _, _, _, _, _, _, _, _, _, _, _, _, _, _, _, _, _, _, _, _, _, _, _, _, _, _, _, _, _, _, _, _, _, _, _, _, _, _, _, _, _, _, _, _, _, _, _, _, _, _, _, _, _, _, _, _, _, _, _, _, _, _, _, _, _, _, _, _, _, _, _, _, _, _, _, _, _, _, _, _, _, _, _, _, _, _, _, _, _, _, _, hb, rfl⟩
set_option maxRecDepth 1000000 in
set_option maxHeartbeats 4000000 in
theorem round_all (l : List Aw) (A : Option Addr) (n c db m B : Nat) (w w1 : World) (Hn : Hid (n = l.length)) (hn0 : n ≤ 140737488351232) (HA : Hid (∀ x ∈ l, AwOk w x)) (HR : Hid (G.HasRow w 4 (.slice A n c) n (l.flatMap awc))) (HB1 : Hid (Below w.heap.size w w1)) (HB : Hid (B = w1.heap.size)) (Q0 : Exit → Act → World → Prop) (c1 c5 c21 c22 c23 c24 c25 c26 c27 c28 c29 c30 c31 c32 c33 c34 c35 : Value) (hexit : ∀ a' w', FX db n c A w c1 c5 c21 c22 c23 c24 c25 c26 c27 c28 c29 c30 c31 c32 c33 c34 c35 a' w' → Q0 (.exit 0) a' w') (a : Act) (wr : World) (hI : FI B db m n c A w1 c1 c5 c21 c22 c23 c24 c25 c26 c27 c28 c29 c30 c31 c32 c33 c34 c35 a wr) :
    Code.wp Tryd.prog lbody (Exit.then (fun a' w' => FI B db m n c A w1 c1 c5 c21 c22 c23 c24 c25 c26 c27 c28 c29 c30 c31 c32 c33 c34 c35 a' w' ∧ mu n a' < mu n a) Q0) a wr := by
  unfold FI at hI
  obtain ⟨u2, hI⟩ := hI
  obtain ⟨u4, hI⟩ := hI
  obtain ⟨u6, hI⟩ := hI
  obtain ⟨u7, hI⟩ := hI
  obtain ⟨u8, hI⟩ := hI
  obtain ⟨u9, hI⟩ := hI
  obtain ⟨u10, hI⟩ := hI
  obtain ⟨u11, hI⟩ := hI
  obtain ⟨u12, hI⟩ := hI
  obtain ⟨u13, hI⟩ := hI
  obtain ⟨u14, hI⟩ := hI
  obtain ⟨u15, hI⟩ := hI
  obtain ⟨u16, hI⟩ := hI
  obtain ⟨u17, hI⟩ := hI
  obtain ⟨u18, hI⟩ := hI
  obtain ⟨u19, hI⟩ := hI
  obtain ⟨u20, hI⟩ := hI
  obtain ⟨u36, hI⟩ := hI
  obtain ⟨u37, hI⟩ := hI
  obtain ⟨u38, hI⟩ := hI
  obtain ⟨u39, hI⟩ := hI
  obtain ⟨u40, hI⟩ := hI
  obtain ⟨u41, hI⟩ := hI
  obtain ⟨u42, hI⟩ := hI
  obtain ⟨u43, hI⟩ := hI
  obtain ⟨u44, hI⟩ := hI
  obtain ⟨u45, hI⟩ := hI
  obtain ⟨u46, hI⟩ := hI
  obtain ⟨u47, hI⟩ := hI
  obtain ⟨u48, hI⟩ := hI
  obtain ⟨u49, hI⟩ := hI
  obtain ⟨u50, hI⟩ := hI
  obtain ⟨u51, hI⟩ := hI
  obtain ⟨u52, hI⟩ := hI
  obtain ⟨u53, hI⟩ := hI
  obtain ⟨u54, hI⟩ := hI
  obtain ⟨u55, hI⟩ := hI
  obtain ⟨u56, hI⟩ := hI
  obtain ⟨u57, hI⟩ := hI
  obtain ⟨u58, hI⟩ := hI
  obtain ⟨u59, hI⟩ := hI
  obtain ⟨u60, hI⟩ := hI
  obtain ⟨u61, hI⟩ := hI
  obtain ⟨u62, hI⟩ := hI
  obtain ⟨u63, hI⟩ := hI
  obtain ⟨u64, hI⟩ := hI
  obtain ⟨u65, hI⟩ := hI
  obtain ⟨u66, hI⟩ := hI
  obtain ⟨u67, hI⟩ := hI
  obtain ⟨u68, hI⟩ := hI
  obtain ⟨u69, hI⟩ := hI
  obtain ⟨u70, hI⟩ := hI
  obtain ⟨u71, hI⟩ := hI
  obtain ⟨u72, hI⟩ := hI
  obtain ⟨u73, hI⟩ := hI
  obtain ⟨u74, hI⟩ := hI
  obtain ⟨u75, hI⟩ := hI
  obtain ⟨u76, hI⟩ := hI
  obtain ⟨u77, hI⟩ := hI
  obtain ⟨u78, hI⟩ := hI
  obtain ⟨u79, hI⟩ := hI
  obtain ⟨u80, hI⟩ := hI
  obtain ⟨u81, hI⟩ := hI
  obtain ⟨u82, hI⟩ := hI
  obtain ⟨u83, hI⟩ := hI
  obtain ⟨u84, hI⟩ := hI
  obtain ⟨u85, hI⟩ := hI
  obtain ⟨u86, hI⟩ := hI
  obtain ⟨u87, hI⟩ := hI
  obtain ⟨u88, hI⟩ := hI
  obtain ⟨u89, hI⟩ := hI
  obtain ⟨u90, hI⟩ := hI
  obtain ⟨u91, hI⟩ := hI
  obtain ⟨u92, hI⟩ := hI
  obtain ⟨u93, hI⟩ := hI
  obtain ⟨u94, hI⟩ := hI
  obtain ⟨u95, hI⟩ := hI
  obtain ⟨u96, hI⟩ := hI
  obtain ⟨u97, hI⟩ := hI
  obtain ⟨u98, hI⟩ := hI
  obtain ⟨u99, hI⟩ := hI
  obtain ⟨u100, hI⟩ := hI
  obtain ⟨u101, hI⟩ := hI
  obtain ⟨u102, hI⟩ := hI
  obtain ⟨u103, hI⟩ := hI
  obtain ⟨u104, hI⟩ := hI
  obtain ⟨u105, hI⟩ := hI
  obtain ⟨u106, hI⟩ := hI
  obtain ⟨u107, hI⟩ := hI
  obtain ⟨u108, hI⟩ := hI
  obtain ⟨u109, hI⟩ := hI
  obtain ⟨u110, hI⟩ := hI
  obtain ⟨u111, hI⟩ := hI
  obtain ⟨u112, hI⟩ := hI
  obtain ⟨u113, hI⟩ := hI
  obtain ⟨u114, hI⟩ := hI
  obtain ⟨u115, hI⟩ := hI
  obtain ⟨u116, hI⟩ := hI
  obtain ⟨u117, hI⟩ := hI
  obtain ⟨u118, hI⟩ := hI
  obtain ⟨u119, hI⟩ := hI
  obtain ⟨u120, hI⟩ := hI
  obtain ⟨u121, hI⟩ := hI
  obtain ⟨u122, hI⟩ := hI
  obtain ⟨u123, hI⟩ := hI
  obtain ⟨u124, hI⟩ := hI
  obtain ⟨u125, hI⟩ := hI
  obtain ⟨u126, hI⟩ := hI
  obtain ⟨u127, hI⟩ := hI
  obtain ⟨u128, hI⟩ := hI
  obtain ⟨u129, hI⟩ := hI
  obtain ⟨u130, hI⟩ := hI
  obtain ⟨u131, hI⟩ := hI
  obtain ⟨u132, hI⟩ := hI
  obtain ⟨u133, hI⟩ := hI
  obtain ⟨u134, hI⟩ := hI
  obtain ⟨u135, hI⟩ := hI
  obtain ⟨u136, hI⟩ := hI
  obtain ⟨u137, hI⟩ := hI
  obtain ⟨u138, hI⟩ := hI
  obtain ⟨u139, hI⟩ := hI
  obtain ⟨u140, hI⟩ := hI
  obtain ⟨u141, hI⟩ := hI
  obtain ⟨u142, hI⟩ := hI
  obtain ⟨u143, hI⟩ := hI
  obtain ⟨u144, hI⟩ := hI
  obtain ⟨u145, hI⟩ := hI
  obtain ⟨u146, hI⟩ := hI
  obtain ⟨u147, hI⟩ := hI
  obtain ⟨u148, hI⟩ := hI
  obtain ⟨u149, hI⟩ := hI
  obtain ⟨u150, hI⟩ := hI
  obtain ⟨u151, hI⟩ := hI
  obtain ⟨u152, hI⟩ := hI
  obtain ⟨u153, hI⟩ := hI
  obtain ⟨u154, hI⟩ := hI
  obtain ⟨u155, hI⟩ := hI
  obtain ⟨u156, hI⟩ := hI
  obtain ⟨u157, hI⟩ := hI
  obtain ⟨u158, hI⟩ := hI
  obtain ⟨u159, hI⟩ := hI
  obtain ⟨u160, hI⟩ := hI
  obtain ⟨u161, hI⟩ := hI
  obtain ⟨u162, hI⟩ := hI
  obtain ⟨u163, hI⟩ := hI
  obtain ⟨u164, hI⟩ := hI
  obtain ⟨u165, hI⟩ := hI
  obtain ⟨u166, hI⟩ := hI
  obtain ⟨u167, hI⟩ := hI
  obtain ⟨u168, hI⟩ := hI
  obtain ⟨u169, hI⟩ := hI
  obtain ⟨u170, hI⟩ := hI
  obtain ⟨u171, hI⟩ := hI
  obtain ⟨u172, hI⟩ := hI
  obtain ⟨u173, hI⟩ := hI
  obtain ⟨u174, hI⟩ := hI
  obtain ⟨u175, hI⟩ := hI
  obtain ⟨u176, hI⟩ := hI
  obtain ⟨u177, hI⟩ := hI
  obtain ⟨u178, hI⟩ := hI
  obtain ⟨u179, hI⟩ := hI
  obtain ⟨u180, hI⟩ := hI
  obtain ⟨u181, hI⟩ := hI
  obtain ⟨u182, hI⟩ := hI
  obtain ⟨u183, hI⟩ := hI
  obtain ⟨u184, hI⟩ := hI
  obtain ⟨u185, hI⟩ := hI
  obtain ⟨u186, hI⟩ := hI
  obtain ⟨u187, hI⟩ := hI
  obtain ⟨u188, hI⟩ := hI
  obtain ⟨u189, hI⟩ := hI
  obtain ⟨u190, hI⟩ := hI
  obtain ⟨u191, hI⟩ := hI
  obtain ⟨u192, hI⟩ := hI
  obtain ⟨u193, hI⟩ := hI
  obtain ⟨u194, hI⟩ := hI
  obtain ⟨u195, hI⟩ := hI
  obtain ⟨u196, hI⟩ := hI
  obtain ⟨u197, hI⟩ := hI
  obtain ⟨u198, hI⟩ := hI
  obtain ⟨u199, hI⟩ := hI
  obtain ⟨u200, hI⟩ := hI
  obtain ⟨u201, hI⟩ := hI
  obtain ⟨u202, hI⟩ := hI
  obtain ⟨u203, hI⟩ := hI
  obtain ⟨u204, hI⟩ := hI
  obtain ⟨u205, hI⟩ := hI
  obtain ⟨u206, hI⟩ := hI
  obtain ⟨u207, hI⟩ := hI
  obtain ⟨⟨k, lb, T, sf, hk, hk1, rfl, rfl, rfl, rfl, HK⟩, rfl⟩ := hI
  obtain ⟨s, L, v, all, next, hX, hOk, hI, hBd, hal, hnx, hSm⟩ := HK.out
  by_cases hkn : k < n
  · by_cases hk2 : k < 80
    · have hkl : k < l.length := by have := Hn.out; omega
      by_cases e1 : l[k].kind = 1
      · exact round_K1 l A n c db m B w w1 Hn hn0 HA HR HB1 HB Q0 c1 c5 c21 c22 c23 c24 c25 c26 c27 c28 c29 c30 c31 c32 c33 c34 c35 u2 u11 u12 u13 u14 u15 u16 u17 u18 u19 u20 u36 u37 u38 u39 u40 u41 u42 u43 u44 u45 u46 u47 u48 u49 u50 u51 u52 u53 u54 u55 u56 u57 u58 u59 u60 u61 u62 u63 u64 u65 u66 u67 u68 u69 u70 u71 u72 u73 u74 u75 u76 u77 u78 u79 u80 u81 u82 u83 u84 u85 u86 u87 u88 u89 u90 u91 u92 u93 u94 u95 u96 u97 u98 u99 u100 u101 u102 u103 u104 u105 u106 u107 u108 u109 u110 u111 u112 u113 u114 u115 u116 u117 u118 u119 u120 u121 u122 u123 u124 u125 u126 u127 u128 u129 u130 u131 u132 u133 u134 u135 u136 u137 u138 u139 u140 u141 u142 u143 u144 u145 u146 u147 u148 u149 u150 u151 u152 u153 u154 u155 u156 u157 u158 u159 u160 u161 u162 u163 u164 u165 u166 u167 u168 u169 u170 u171 u172 u173 u174 u175 u176 u177 u178 u179 u180 u181 u182 u183 u184 u185 u186 u187 u188 u189 u190 u191 u192 u193 u194 u195 u196 u197 u198 u199 u200 u201 u202 u203 u204 u205 u206 u207 wr k lb T sf s L v u7 u9 all next hkn hk2 hX hOk hI hBd hal hnx hSm hkl e1
      by_cases e2 : l[k].kind = 2
      · exact round_K2 l A n c db m B w w1 Hn hn0 HA HR HB1 HB Q0 c1 c5 c21 c22 c23 c24 c25 c26 c27 c28 c29 c30 c31 c32 c33 c34 c35 u2 u11 u12 u13 u14 u15 u16 u17 u18 u19 u20 u36 u37 u38 u39 u40 u41 u42 u43 u44 u45 u46 u47 u48 u49 u50 u51 u52 u53 u54 u55 u56 u57 u58 u59 u60 u61 u62 u63 u64 u65 u66 u67 u68 u69 u70 u71 u72 u73 u74 u75 u76 u77 u78 u79 u80 u81 u82 u83 u84 u85 u86 u87 u88 u89 u90 u91 u92 u93 u94 u95 u96 u97 u98 u99 u100 u101 u102 u103 u104 u105 u106 u107 u108 u109 u110 u111 u112 u113 u114 u115 u116 u117 u118 u119 u120 u121 u122 u123 u124 u125 u126 u127 u128 u129 u130 u131 u132 u133 u134 u135 u136 u137 u138 u139 u140 u141 u142 u143 u144 u145 u146 u147 u148 u149 u150 u151 u152 u153 u154 u155 u156 u157 u158 u159 u160 u161 u162 u163 u164 u165 u166 u167 u168 u169 u170 u171 u172 u173 u174 u175 u176 u177 u178 u179 u180 u181 u182 u183 u184 u185 u186 u187 u188 u189 u190 u191 u192 u193 u194 u195 u196 u197 u198 u199 u200 u201 u202 u203 u204 u205 u206 u207 wr k lb T sf s L v u7 u9 all next hkn hk2 hX hOk hI hBd hal hnx hSm hkl e2
      by_cases e3 : l[k].kind = 3
      · exact round_K3 l A n c db m B w w1 Hn hn0 HA HR HB1 HB Q0 c1 c5 c21 c22 c23 c24 c25 c26 c27 c28 c29 c30 c31 c32 c33 c34 c35 u2 u11 u12 u13 u14 u15 u16 u17 u18 u19 u20 u36 u37 u38 u39 u40 u41 u42 u43 u44 u45 u46 u47 u48 u49 u50 u51 u52 u53 u54 u55 u56 u57 u58 u59 u60 u61 u62 u63 u64 u65 u66 u67 u68 u69 u70 u71 u72 u73 u74 u75 u76 u77 u78 u79 u80 u81 u82 u83 u84 u85 u86 u87 u88 u89 u90 u91 u92 u93 u94 u95 u96 u97 u98 u99 u100 u101 u102 u103 u104 u105 u106 u107 u108 u109 u110 u111 u112 u113 u114 u115 u116 u117 u118 u119 u120 u121 u122 u123 u124 u125 u126 u127 u128 u129 u130 u131 u132 u133 u134 u135 u136 u137 u138 u139 u140 u141 u142 u143 u144 u145 u146 u147 u148 u149 u150 u151 u152 u153 u154 u155 u156 u157 u158 u159 u160 u161 u162 u163 u164 u165 u166 u167 u168 u169 u170 u171 u172 u173 u174 u175 u176 u177 u178 u179 u180 u181 u182 u183 u184 u185 u186 u187 u188 u189 u190 u191 u192 u193 u194 u195 u196 u197 u198 u199 u200 u201 u202 u203 u204 u205 u206 u207 wr k lb T sf s L v u7 u9 all next hkn hk2 hX hOk hI hBd hal hnx hSm hkl e3
      by_cases e4 : l[k].kind = 4
      · exact round_K4 l A n c db m B w w1 Hn hn0 HA HR HB1 HB Q0 c1 c5 c21 c22 c23 c24 c25 c26 c27 c28 c29 c30 c31 c32 c33 c34 c35 u2 u11 u12 u13 u14 u15 u16 u17 u18 u19 u20 u36 u37 u38 u39 u40 u41 u42 u43 u44 u45 u46 u47 u48 u49 u50 u51 u52 u53 u54 u55 u56 u57 u58 u59 u60 u61 u62 u63 u64 u65 u66 u67 u68 u69 u70 u71 u72 u73 u74 u75 u76 u77 u78 u79 u80 u81 u82 u83 u84 u85 u86 u87 u88 u89 u90 u91 u92 u93 u94 u95 u96 u97 u98 u99 u100 u101 u102 u103 u104 u105 u106 u107 u108 u109 u110 u111 u112 u113 u114 u115 u116 u117 u118 u119 u120 u121 u122 u123 u124 u125 u126 u127 u128 u129 u130 u131 u132 u133 u134 u135 u136 u137 u138 u139 u140 u141 u142 u143 u144 u145 u146 u147 u148 u149 u150 u151 u152 u153 u154 u155 u156 u157 u158 u159 u160 u161 u162 u163 u164 u165 u166 u167 u168 u169 u170 u171 u172 u173 u174 u175 u176 u177 u178 u179 u180 u181 u182 u183 u184 u185 u186 u187 u188 u189 u190 u191 u192 u193 u194 u195 u196 u197 u198 u199 u200 u201 u202 u203 u204 u205 u206 u207 wr k lb T sf s L v u7 u9 all next hkn hk2 hX hOk hI hBd hal hnx hSm hkl e4
      by_cases e5 : l[k].kind = 5
      · exact round_K5 l A n c db m B w w1 Hn hn0 HA HR HB1 HB Q0 c1 c5 c21 c22 c23 c24 c25 c26 c27 c28 c29 c30 c31 c32 c33 c34 c35 u2 u11 u12 u13 u14 u15 u16 u17 u18 u19 u20 u36 u37 u38 u39 u40 u41 u42 u43 u44 u45 u46 u47 u48 u49 u50 u51 u52 u53 u54 u55 u56 u57 u58 u59 u60 u61 u62 u63 u64 u65 u66 u67 u68 u69 u70 u71 u72 u73 u74 u75 u76 u77 u78 u79 u80 u81 u82 u83 u84 u85 u86 u87 u88 u89 u90 u91 u92 u93 u94 u95 u96 u97 u98 u99 u100 u101 u102 u103 u104 u105 u106 u107 u108 u109 u110 u111 u112 u113 u114 u115 u116 u117 u118 u119 u120 u121 u122 u123 u124 u125 u126 u127 u128 u129 u130 u131 u132 u133 u134 u135 u136 u137 u138 u139 u140 u141 u142 u143 u144 u145 u146 u147 u148 u149 u150 u151 u152 u153 u154 u155 u156 u157 u158 u159 u160 u161 u162 u163 u164 u165 u166 u167 u168 u169 u170 u171 u172 u173 u174 u175 u176 u177 u178 u179 u180 u181 u182 u183 u184 u185 u186 u187 u188 u189 u190 u191 u192 u193 u194 u195 u196 u197 u198 u199 u200 u201 u202 u203 u204 u205 u206 u207 wr k lb T sf s L v u7 u9 all next hkn hk2 hX hOk hI hBd hal hnx hSm hkl e5
      cases hoff : s.off with
      | false => exact round_D0 l A n c db m B w w1 Hn hn0 HA HR HB1 HB Q0 c1 c5 c21 c22 c23 c24 c25 c26 c27 c28 c29 c30 c31 c32 c33 c34 c35 u2 u11 u12 u13 u14 u15 u16 u17 u18 u19 u20 u36 u37 u38 u39 u40 u41 u42 u43 u44 u45 u46 u47 u48 u49 u50 u51 u52 u53 u54 u55 u56 u57 u58 u59 u60 u61 u62 u63 u64 u65 u66 u67 u68 u69 u70 u71 u72 u73 u74 u75 u76 u77 u78 u79 u80 u81 u82 u83 u84 u85 u86 u87 u88 u89 u90 u91 u92 u93 u94 u95 u96 u97 u98 u99 u100 u101 u102 u103 u104 u105 u106 u107 u108 u109 u110 u111 u112 u113 u114 u115 u116 u117 u118 u119 u120 u121 u122 u123 u124 u125 u126 u127 u128 u129 u130 u131 u132 u133 u134 u135 u136 u137 u138 u139 u140 u141 u142 u143 u144 u145 u146 u147 u148 u149 u150 u151 u152 u153 u154 u155 u156 u157 u158 u159 u160 u161 u162 u163 u164 u165 u166 u167 u168 u169 u170 u171 u172 u173 u174 u175 u176 u177 u178 u179 u180 u181 u182 u183 u184 u185 u186 u187 u188 u189 u190 u191 u192 u193 u194 u195 u196 u197 u198 u199 u200 u201 u202 u203 u204 u205 u206 u207 wr k lb T sf s L v u7 u9 all next hkn hk2 hX hOk hI hBd hal hnx hSm hkl e1 e2 e3 e4 e5 hoff
      | true =>
        obtain ⟨s2, s3, ⟨g1, t1, r1, l1, p1, o1⟩, hF, hw⟩ := off_facts (cutW l[k]).picks hk2 hoff hOk hI hal hSm
        have HF := Lib.hid hF
        rcases hw with ⟨hT, hsf, hall⟩ | ⟨hlast, hr1⟩
        · cases hnl : next.getLast? with
          | none =>
            have hnext : next = [] := List.getLast?_eq_none_iff.1 hnl
            exact round_Da l A n c db m B w w1 Hn hn0 HA HR HB1 HB Q0 c1 c5 c21 c22 c23 c24 c25 c26 c27 c28 c29 c30 c31 c32 c33 c34 c35 u2 u11 u12 u13 u14 u15 u16 u17 u18 u19 u20 u36 u37 u38 u39 u40 u41 u42 u43 u44 u45 u46 u47 u48 u49 u50 u51 u52 u53 u54 u55 u56 u57 u58 u59 u60 u61 u62 u63 u64 u65 u66 u67 u68 u69 u70 u71 u72 u73 u74 u75 u76 u77 u78 u79 u80 u81 u82 u83 u84 u85 u86 u87 u88 u89 u90 u91 u92 u93 u94 u95 u96 u97 u98 u99 u100 u101 u102 u103 u104 u105 u106 u107 u108 u109 u110 u111 u112 u113 u114 u115 u116 u117 u118 u119 u120 u121 u122 u123 u124 u125 u126 u127 u128 u129 u130 u131 u132 u133 u134 u135 u136 u137 u138 u139 u140 u141 u142 u143 u144 u145 u146 u147 u148 u149 u150 u151 u152 u153 u154 u155 u156 u157 u158 u159 u160 u161 u162 u163 u164 u165 u166 u167 u168 u169 u170 u171 u172 u173 u174 u175 u176 u177 u178 u179 u180 u181 u182 u183 u184 u185 u186 u187 u188 u189 u190 u191 u192 u193 u194 u195 u196 u197 u198 u199 u200 u201 u202 u203 u204 u205 u206 u207 wr k lb T sf s L v u7 u9 all next hkn hk2 hX hOk hI hBd hal hnx hSm hkl e1 e2 e3 e4 e5 hoff _ rfl s2 s3 g1 t1 r1 l1 p1 o1 HF hT hsf hall hnext
          | some x9 =>
            by_cases hx9 : t1 = x9
            · subst hx9
              by_cases hr1 : r1 = []
              · exact round_Dc l A n c db m B w w1 Hn hn0 HA HR HB1 HB Q0 c1 c5 c21 c22 c23 c24 c25 c26 c27 c28 c29 c30 c31 c32 c33 c34 c35 u2 u11 u12 u13 u14 u15 u16 u17 u18 u19 u20 u36 u37 u38 u39 u40 u41 u42 u43 u44 u45 u46 u47 u48 u49 u50 u51 u52 u53 u54 u55 u56 u57 u58 u59 u60 u61 u62 u63 u64 u65 u66 u67 u68 u69 u70 u71 u72 u73 u74 u75 u76 u77 u78 u79 u80 u81 u82 u83 u84 u85 u86 u87 u88 u89 u90 u91 u92 u93 u94 u95 u96 u97 u98 u99 u100 u101 u102 u103 u104 u105 u106 u107 u108 u109 u110 u111 u112 u113 u114 u115 u116 u117 u118 u119 u120 u121 u122 u123 u124 u125 u126 u127 u128 u129 u130 u131 u132 u133 u134 u135 u136 u137 u138 u139 u140 u141 u142 u143 u144 u145 u146 u147 u148 u149 u150 u151 u152 u153 u154 u155 u156 u157 u158 u159 u160 u161 u162 u163 u164 u165 u166 u167 u168 u169 u170 u171 u172 u173 u174 u175 u176 u177 u178 u179 u180 u181 u182 u183 u184 u185 u186 u187 u188 u189 u190 u191 u192 u193 u194 u195 u196 u197 u198 u199 u200 u201 u202 u203 u204 u205 u206 u207 wr k lb T sf s L v u7 u9 all next hkn hk2 hX hOk hI hBd hal hnx hSm hkl e1 e2 e3 e4 e5 hoff _ rfl s2 s3 g1 t1 r1 l1 p1 o1 HF hT hsf hall hnl (Lib.hid hr1)
              · exact round_Dd l A n c db m B w w1 Hn hn0 HA HR HB1 HB Q0 c1 c5 c21 c22 c23 c24 c25 c26 c27 c28 c29 c30 c31 c32 c33 c34 c35 u2 u11 u12 u13 u14 u15 u16 u17 u18 u19 u20 u36 u37 u38 u39 u40 u41 u42 u43 u44 u45 u46 u47 u48 u49 u50 u51 u52 u53 u54 u55 u56 u57 u58 u59 u60 u61 u62 u63 u64 u65 u66 u67 u68 u69 u70 u71 u72 u73 u74 u75 u76 u77 u78 u79 u80 u81 u82 u83 u84 u85 u86 u87 u88 u89 u90 u91 u92 u93 u94 u95 u96 u97 u98 u99 u100 u101 u102 u103 u104 u105 u106 u107 u108 u109 u110 u111 u112 u113 u114 u115 u116 u117 u118 u119 u120 u121 u122 u123 u124 u125 u126 u127 u128 u129 u130 u131 u132 u133 u134 u135 u136 u137 u138 u139 u140 u141 u142 u143 u144 u145 u146 u147 u148 u149 u150 u151 u152 u153 u154 u155 u156 u157 u158 u159 u160 u161 u162 u163 u164 u165 u166 u167 u168 u169 u170 u171 u172 u173 u174 u175 u176 u177 u178 u179 u180 u181 u182 u183 u184 u185 u186 u187 u188 u189 u190 u191 u192 u193 u194 u195 u196 u197 u198 u199 u200 u201 u202 u203 u204 u205 u206 u207 wr k lb T sf s L v u7 u9 all next hkn hk2 hX hOk hI hBd hal hnx hSm hkl e1 e2 e3 e4 e5 hoff _ rfl s2 s3 g1 t1 r1 l1 p1 o1 HF hT hsf hall hnl hr1
            · exact round_Db l A n c db m B w w1 Hn hn0 HA HR HB1 HB Q0 c1 c5 c21 c22 c23 c24 c25 c26 c27 c28 c29 c30 c31 c32 c33 c34 c35 u2 u11 u12 u13 u14 u15 u16 u17 u18 u19 u20 u36 u37 u38 u39 u40 u41 u42 u43 u44 u45 u46 u47 u48 u49 u50 u51 u52 u53 u54 u55 u56 u57 u58 u59 u60 u61 u62 u63 u64 u65 u66 u67 u68 u69 u70 u71 u72 u73 u74 u75 u76 u77 u78 u79 u80 u81 u82 u83 u84 u85 u86 u87 u88 u89 u90 u91 u92 u93 u94 u95 u96 u97 u98 u99 u100 u101 u102 u103 u104 u105 u106 u107 u108 u109 u110 u111 u112 u113 u114 u115 u116 u117 u118 u119 u120 u121 u122 u123 u124 u125 u126 u127 u128 u129 u130 u131 u132 u133 u134 u135 u136 u137 u138 u139 u140 u141 u142 u143 u144 u145 u146 u147 u148 u149 u150 u151 u152 u153 u154 u155 u156 u157 u158 u159 u160 u161 u162 u163 u164 u165 u166 u167 u168 u169 u170 u171 u172 u173 u174 u175 u176 u177 u178 u179 u180 u181 u182 u183 u184 u185 u186 u187 u188 u189 u190 u191 u192 u193 u194 u195 u196 u197 u198 u199 u200 u201 u202 u203 u204 u205 u206 u207 wr k lb T sf s L v u7 u9 all next hkn hk2 hX hOk hI hBd hal hnx hSm hkl e1 e2 e3 e4 e5 hoff _ rfl s2 s3 g1 t1 r1 l1 p1 o1 HF hT hsf hall x9 hnl hx9
        · replace hlast : next.getLast? = some t1 := hlast
          replace hr1 : r1 = [] := hr1
          by_cases hT : t1 = T
          · by_cases hsf : 0 < sf
            · exact round_Df l A n c db m B w w1 Hn hn0 HA HR HB1 HB Q0 c1 c5 c21 c22 c23 c24 c25 c26 c27 c28 c29 c30 c31 c32 c33 c34 c35 u2 u11 u12 u13 u14 u15 u16 u17 u18 u19 u20 u36 u37 u38 u39 u40 u41 u42 u43 u44 u45 u46 u47 u48 u49 u50 u51 u52 u53 u54 u55 u56 u57 u58 u59 u60 u61 u62 u63 u64 u65 u66 u67 u68 u69 u70 u71 u72 u73 u74 u75 u76 u77 u78 u79 u80 u81 u82 u83 u84 u85 u86 u87 u88 u89 u90 u91 u92 u93 u94 u95 u96 u97 u98 u99 u100 u101 u102 u103 u104 u105 u106 u107 u108 u109 u110 u111 u112 u113 u114 u115 u116 u117 u118 u119 u120 u121 u122 u123 u124 u125 u126 u127 u128 u129 u130 u131 u132 u133 u134 u135 u136 u137 u138 u139 u140 u141 u142 u143 u144 u145 u146 u147 u148 u149 u150 u151 u152 u153 u154 u155 u156 u157 u158 u159 u160 u161 u162 u163 u164 u165 u166 u167 u168 u169 u170 u171 u172 u173 u174 u175 u176 u177 u178 u179 u180 u181 u182 u183 u184 u185 u186 u187 u188 u189 u190 u191 u192 u193 u194 u195 u196 u197 u198 u199 u200 u201 u202 u203 u204 u205 u206 u207 wr k lb T sf s L v u7 u9 all next hkn hk2 hX hOk hI hBd hal hnx hSm hkl e1 e2 e3 e4 e5 hoff _ rfl s2 s3 g1 t1 r1 l1 p1 o1 HF hT hsf hlast (Lib.hid hr1)
            · exact round_Dc l A n c db m B w w1 Hn hn0 HA HR HB1 HB Q0 c1 c5 c21 c22 c23 c24 c25 c26 c27 c28 c29 c30 c31 c32 c33 c34 c35 u2 u11 u12 u13 u14 u15 u16 u17 u18 u19 u20 u36 u37 u38 u39 u40 u41 u42 u43 u44 u45 u46 u47 u48 u49 u50 u51 u52 u53 u54 u55 u56 u57 u58 u59 u60 u61 u62 u63 u64 u65 u66 u67 u68 u69 u70 u71 u72 u73 u74 u75 u76 u77 u78 u79 u80 u81 u82 u83 u84 u85 u86 u87 u88 u89 u90 u91 u92 u93 u94 u95 u96 u97 u98 u99 u100 u101 u102 u103 u104 u105 u106 u107 u108 u109 u110 u111 u112 u113 u114 u115 u116 u117 u118 u119 u120 u121 u122 u123 u124 u125 u126 u127 u128 u129 u130 u131 u132 u133 u134 u135 u136 u137 u138 u139 u140 u141 u142 u143 u144 u145 u146 u147 u148 u149 u150 u151 u152 u153 u154 u155 u156 u157 u158 u159 u160 u161 u162 u163 u164 u165 u166 u167 u168 u169 u170 u171 u172 u173 u174 u175 u176 u177 u178 u179 u180 u181 u182 u183 u184 u185 u186 u187 u188 u189 u190 u191 u192 u193 u194 u195 u196 u197 u198 u199 u200 u201 u202 u203 u204 u205 u206 u207 wr k lb T sf s L v u7 u9 all next hkn hk2 hX hOk hI hBd hal hnx hSm hkl e1 e2 e3 e4 e5 hoff _ rfl s2 s3 g1 t1 r1 l1 p1 o1 HF hT (by omega) ⟨all, by rw [hr1]; rfl⟩ hlast (Lib.hid hr1)
          · exact round_De l A n c db m B w w1 Hn hn0 HA HR HB1 HB Q0 c1 c5 c21 c22 c23 c24 c25 c26 c27 c28 c29 c30 c31 c32 c33 c34 c35 u2 u11 u12 u13 u14 u15 u16 u17 u18 u19 u20 u36 u37 u38 u39 u40 u41 u42 u43 u44 u45 u46 u47 u48 u49 u50 u51 u52 u53 u54 u55 u56 u57 u58 u59 u60 u61 u62 u63 u64 u65 u66 u67 u68 u69 u70 u71 u72 u73 u74 u75 u76 u77 u78 u79 u80 u81 u82 u83 u84 u85 u86 u87 u88 u89 u90 u91 u92 u93 u94 u95 u96 u97 u98 u99 u100 u101 u102 u103 u104 u105 u106 u107 u108 u109 u110 u111 u112 u113 u114 u115 u116 u117 u118 u119 u120 u121 u122 u123 u124 u125 u126 u127 u128 u129 u130 u131 u132 u133 u134 u135 u136 u137 u138 u139 u140 u141 u142 u143 u144 u145 u146 u147 u148 u149 u150 u151 u152 u153 u154 u155 u156 u157 u158 u159 u160 u161 u162 u163 u164 u165 u166 u167 u168 u169 u170 u171 u172 u173 u174 u175 u176 u177 u178 u179 u180 u181 u182 u183 u184 u185 u186 u187 u188 u189 u190 u191 u192 u193 u194 u195 u196 u197 u198 u199 u200 u201 u202 u203 u204 u205 u206 u207 wr k lb T sf s L v u7 u9 all next hkn hk2 hX hOk hI hBd hal hnx hSm hkl e1 e2 e3 e4 e5 hoff _ rfl s2 s3 g1 t1 r1 l1 p1 o1 HF hT hlast (Lib.hid hr1)
    · exact round_exit l A n c db m B w w1 Hn hn0 HA HR HB1 HB Q0 c1 c5 c21 c22 c23 c24 c25 c26 c27 c28 c29 c30 c31 c32 c33 c34 c35 hexit u2 u11 u12 u13 u14 u15 u16 u17 u18 u19 u20 u36 u37 u38 u39 u40 u41 u42 u43 u44 u45 u46 u47 u48 u49 u50 u51 u52 u53 u54 u55 u56 u57 u58 u59 u60 u61 u62 u63 u64 u65 u66 u67 u68 u69 u70 u71 u72 u73 u74 u75 u76 u77 u78 u79 u80 u81 u82 u83 u84 u85 u86 u87 u88 u89 u90 u91 u92 u93 u94 u95 u96 u97 u98 u99 u100 u101 u102 u103 u104 u105 u106 u107 u108 u109 u110 u111 u112 u113 u114 u115 u116 u117 u118 u119 u120 u121 u122 u123 u124 u125 u126 u127 u128 u129 u130 u131 u132 u133 u134 u135 u136 u137 u138 u139 u140 u141 u142 u143 u144 u145 u146 u147 u148 u149 u150 u151 u152 u153 u154 u155 u156 u157 u158 u159 u160 u161 u162 u163 u164 u165 u166 u167 u168 u169 u170 u171 u172 u173 u174 u175 u176 u177 u178 u179 u180 u181 u182 u183 u184 u185 u186 u187 u188 u189 u190 u191 u192 u193 u194 u195 u196 u197 u198 u199 u200 u201 u202 u203 u204 u205 u206 u207 wr k lb T sf u7 u9 (G.bthen HB1.out (by rw [← HB.out]; exact hX.bel)) (.inr (by omega)) hk
  · exact round_exit l A n c db m B w w1 Hn hn0 HA HR HB1 HB Q0 c1 c5 c21 c22 c23 c24 c25 c26 c27 c28 c29 c30 c31 c32 c33 c34 c35 hexit u2 u11 u12 u13 u14 u15 u16 u17 u18 u19 u20 u36 u37 u38 u39 u40 u41 u42 u43 u44 u45 u46 u47 u48 u49 u50 u51 u52 u53 u54 u55 u56 u57 u58 u59 u60 u61 u62 u63 u64 u65 u66 u67 u68 u69 u70 u71 u72 u73 u74 u75 u76 u77 u78 u79 u80 u81 u82 u83 u84 u85 u86 u87 u88 u89 u90 u91 u92 u93 u94 u95 u96 u97 u98 u99 u100 u101 u102 u103 u104 u105 u106 u107 u108 u109 u110 u111 u112 u113 u114 u115 u116 u117 u118 u119 u120 u121 u122 u123 u124 u125 u126 u127 u128 u129 u130 u131 u132 u133 u134 u135 u136 u137 u138 u139 u140 u141 u142 u143 u144 u145 u146 u147 u148 u149 u150 u151 u152 u153 u154 u155 u156 u157 u158 u159 u160 u161 u162 u163 u164 u165 u166 u167 u168 u169 u170 u171 u172 u173 u174 u175 u176 u177 u178 u179 u180 u181 u182 u183 u184 u185 u186 u187 u188 u189 u190 u191 u192 u193 u194 u195 u196 u197 u198 u199 u200 u201 u202 u203 u204 u205 u206 u207 wr k lb T sf u7 u9 (G.bthen HB1.out (by rw [← HB.out]; exact hX.bel)) (.inl (by omega)) hk
set_option maxRecDepth 1000000 in
set_option maxHeartbeats 4000000 in
theorem loop_all (l : List Aw) (A : Option Addr) (n c db m B : Nat) (w w1 : World) (Hn : Hid (n = l.length)) (hn0 : n ≤ 140737488351232) (HA : Hid (∀ x ∈ l, AwOk w x)) (HR : Hid (G.HasRow w 4 (.slice A n c) n (l.flatMap awc))) (HB1 : Hid (Below w.heap.size w w1)) (HB : Hid (B = w1.heap.size)) (Q0 : Exit → Act → World → Prop) (c1 c5 c21 c22 c23 c24 c25 c26 c27 c28 c29 c30 c31 c32 c33 c34 c35 : Value) (hexit : ∀ a' w', FX db n c A w c1 c5 c21 c22 c23 c24 c25 c26 c27 c28 c29 c30 c31 c32 c33 c34 c35 a' w' → Q0 (.exit 0) a' w') (u2 u4 u6 u7 u8 u9 u10 u11 u12 u13 u14 u15 u16 u17 u18 u19 u20 u36 u37 u38 u39 u40 u41 u42 u43 u44 u45 u46 u47 u48 u49 u50 u51 u52 u53 u54 u55 u56 u57 u58 u59 u60 u61 u62 u63 u64 u65 u66 u67 u68 u69 u70 u71 u72 u73 u74 u75 u76 u77 u78 u79 u80 u81 u82 u83 u84 u85 u86 u87 u88 u89 u90 u91 u92 u93 u94 u95 u96 u97 u98 u99 u100 u101 u102 u103 u104 u105 u106 u107 u108 u109 u110 u111 u112 u113 u114 u115 u116 u117 u118 u119 u120 u121 u122 u123 u124 u125 u126 u127 u128 u129 u130 u131 u132 u133 u134 u135 u136 u137 u138 u139 u140 u141 u142 u143 u144 u145 u146 u147 u148 u149 u150 u151 u152 u153 u154 u155 u156 u157 u158 u159 u160 u161 u162 u163 u164 u165 u166 u167 u168 u169 u170 u171 u172 u173 u174 u175 u176 u177 u178 u179 u180 u181 u182 u183 u184 u185 u186 u187 u188 u189 u190 u191 u192 u193 u194 u195 u196 u197 u198 u199 u200 u201 u202 u203 u204 u205 u206 u207 : Value) (wr : World) (hrel : LR B db m n w1 u4 u6 u7 u8 u9 u10 wr) :
    Code.wp Tryd.prog (Code.loop lbody) Q0 ⟨#[.slice A n c, c1, u2, .pointer (some ⟨db, 0, none⟩), u4, c5, u6, u7, u8, u9, u10, u11, u12, u13, u14, u15, u16, u17, u18, u19, u20, c21, c22, c23, c24, c25, c26, c27, c28, c29, c30, c31, c32, c33, c34, c35, u36, u37, u38, u39, u40, u41, u42, u43, u44, u45, u46, u47, u48, u49, u50, u51, u52, u53, u54, u55, u56, u57, u58, u59, u60, u61, u62, u63, u64, u65, u66, u67, u68, u69, u70, u71, u72, u73, u74, u75, u76, u77, u78, u79, u80, u81, u82, u83, u84, u85, u86, u87, u88, u89, u90, u91, u92, u93, u94, u95, u96, u97, u98, u99, u100, u101, u102, u103, u104, u105, u106, u107, u108, u109, u110, u111, u112, u113, u114, u115, u116, u117, u118, u119, u120, u121, u122, u123, u124, u125, u126, u127, u128, u129, u130, u131, u132, u133, u134, u135, u136, u137, u138, u139, u140, u141, u142, u143, u144, u145, u146, u147, u148, u149, u150, u151, u152, u153, u154, u155, u156, u157, u158, u159, u160, u161, u162, u163, u164, u165, u166, u167, u168, u169, u170, u171, u172, u173, u174, u175, u176, u177, u178, u179, u180, u181, u182, u183, u184, u185, u186, u187, u188, u189, u190, u191, u192, u193, u194, u195, u196, u197, u198, u199, u200, u201, u202, u203, u204, u205, u206, u207], []⟩ wr := by
  refine wp_loop (FI B db m n c A w1 c1 c5 c21 c22 c23 c24 c25 c26 c27 c28 c29 c30 c31 c32 c33 c34 c35) (fun a _ => mu n a) ?_ (fun a w'' hI => round_all l A n c db m B w w1 Hn hn0 HA HR HB1 HB Q0 c1 c5 c21 c22 c23 c24 c25 c26 c27 c28 c29 c30 c31 c32 c33 c34 c35 hexit a w'' hI)
  unfold FI
  exact ⟨u2, u4, u6, u7, u8, u9, u10, u11, u12, u13, u14, u15, u16, u17, u18, u19, u20, u36, u37, u38, u39, u40, u41, u42, u43, u44, u45, u46, u47, u48, u49, u50, u51, u52, u53, u54, u55, u56, u57, u58, u59, u60, u61, u62, u63, u64, u65, u66, u67, u68, u69, u70, u71, u72, u73, u74, u75, u76, u77, u78, u79, u80, u81, u82, u83, u84, u85, u86, u87, u88, u89, u90, u91, u92, u93, u94, u95, u96, u97, u98, u99, u100, u101, u102, u103, u104, u105, u106, u107, u108, u109, u110, u111, u112, u113, u114, u115, u116, u117, u118, u119, u120, u121, u122, u123, u124, u125, u126, u127, u128, u129, u130, u131, u132, u133, u134, u135, u136, u137, u138, u139, u140, u141, u142, u143, u144, u145, u146, u147, u148, u149, u150, u151, u152, u153, u154, u155, u156, u157, u158, u159, u160, u161, u162, u163, u164, u165, u166, u167, u168, u169, u170, u171, u172, u173, u174, u175, u176, u177, u178, u179, u180, u181, u182, u183, u184, u185, u186, u187, u188, u189, u190, u191, u192, u193, u194, u195, u196, u197, u198, u199, u200, u201, u202, u203, u204, u205, u206, u207, hrel, rfl⟩
set_option maxRecDepth 1000000 in
set_option maxHeartbeats 32000000 in
theorem lasts_main (l : List Aw) (A : Option Addr) (n c : Nat) (w : World) (hT : Hid (TabOf w)) (hn : n = l.length) (h : Aws w A c l) :
    Calls Tryd.prog 11 #[.slice A n c] w fun e w' => e = .returned (.bool true) ∧ Below w.heap.size w w' := by
  have Hn := Lib.hid hn
  have hn0 : n ≤ 140737488351232 := by rw [hn]; exact h.2.1
  have HA := Lib.hid h.1
  have HR := h.2.2
  rw [← hn] at HR
  replace HR := Lib.hid HR
  clear hn h
  go_enter Tryd.func11, Tryd.ntmps11
  go_upto_region 4 with (first
    | (go_at_call 29; refine (awake11 w hT).mono ?_; rintro e w1 ⟨rfl, hb1⟩; have HB1 := Lib.hid hb1; clear hb1)
    | (go_at_call 30; refine (new_any _).mono ?_; rintro e w2 ⟨db, m, rfl, hI, hb2⟩))
  obtain ⟨B, hB⟩ : ∃ B, B = w1.heap.size := ⟨_, rfl⟩
  rw [← hB] at hI hb2
  have HT1 : Hid (TabOf w1) := Lib.hid (hT.out.below HB1.out)
  have hpos : 0 < B := by rw [hB]; exact tab_pos HT1.out
  have HT2 : Hid (DT B db m DS0 w2) := Lib.hid ⟨hI, HT1.out.below (by rw [← hB]; exact hb2), hpos⟩
  have HB2 := Lib.hid hb2
  have HB := Lib.hid hB
  clear hI hb2 hB hpos
  have hzs : (frm (⟨#[]⟩ : ByteArray)).size = 8 := by rw [frm_size]; rfl
  have hwz := whole_frm ⟨#[]⟩ (by decide)
  have hx := x_lay (frm ⟨#[]⟩) hzs rfl
  have ok1 : Okk (X1 (frm ⟨#[]⟩)) 2 := by have := Okk.start.lay 1 ⟨#[]⟩; rw [hx.2] at this; exact this
  have HOk1 := Lib.hid ok1
  have hc1 := Format_new B db m DS0 0 w2 HT2.out Okk.start (by decide) rfl (by show (([] : FM).map (·.1)).mergeSort leI = []; simp)
  rw [hx.1, hx.2] at hc1
  have HC1 := Lib.hid hc1
  have HO1 := Lib.hid (x_open1 (frm ⟨#[]⟩) hzs hwz.1 hwz.2)
  have HSm := Lib.hid (small1 (frm ⟨#[]⟩) hzs)
  clear hzs hwz hx ok1 hc1
  go_upto_region 6 with (go_at_call 40; refine HC1.out.mono ?_; rintro e w3 ⟨rfl, hs3⟩)
  have HB3 := Lib.hid (DStep.below HT2.out.d HB2.out hs3)
  have HT3 := Lib.hid (HT2.out.step hs3)
  have hc2 := Open_any B db m (X1 (frm ⟨#[]⟩)) 2 w3 HT3.out HOk1.out (by decide) rfl HSm.out
  rw [HO1.out] at hc2
  have HC2 : Hid (Calls Tryd.prog 32 #[.pointer (some ⟨db, 0, none⟩)] w3 fun e w' => ∃ ptr, e = .returned (.tuple #[ptr, .int .i64 0]) ∧ DStep B db m w3 (X1 (frm ⟨#[]⟩)) w' ∧ ∃ lb v, ptr = .pointer (some ⟨lb, 0, none⟩) ∧ LInv w3.heap.size db lb ⟨1, ⟨#[]⟩, [], 0, 0, false⟩ v w') := Lib.hid hc2
  clear hs3 hc2 HO1
  go_upto_region 10 with (go_at_call 32; refine HC2.out.mono ?_; rintro e w4 ⟨ptr, rfl, hs4, lb, v4, rfl, hL4⟩)
  have HX4 : Hid (WX B db m lb (X1 (frm ⟨#[]⟩)) ⟨1, ⟨#[]⟩, [], 0, 0, false⟩ v4 (.slice none 0 0) [] (.slice none 0 0) [] w1 w4) := Lib.hid ⟨⟨HT3.out.step hs4, hL4.base_le (Nat.le_trans HT3.out.d.hB (Nat.le_of_lt HT3.out.d.lt))⟩, G.owns_nil _ _ _ _, G.owns_nil _ _ _ _, fun j hj => by simp [Value.ownBlock] at hj, fun j hj => by simp [Value.ownBlock] at hj, fun j hj => by simp [Value.ownBlock] at hj, DStep.below HT3.out.d HB3.out hs4⟩
  clear hs4 hL4
  have HX5 := Lib.hid HX4.out.noneA
  go_upto_region 12 with (fail)
  generalize w4.alloc (.cells #[] 9) = w5 at *
  have HX6 := Lib.hid HX5.out.noneN
  obtain ⟨va0, hva0⟩ : ∃ va0, Value.slice (some ⟨w4.heap.size, 0, none⟩) 0 0 = va0 := ⟨_, rfl⟩
  rw [hva0] at HX6 ⊢
  go_upto_block 0 with (fail)
  generalize w5.alloc (.cells #[] 9) = w6 at *
  obtain ⟨vn0, hvn0⟩ : ∃ vn0, Value.slice (some ⟨w5.heap.size, 0, none⟩) 0 0 = vn0 := ⟨_, rfl⟩
  rw [hvn0] at HX6 ⊢
  have HP0 : Hid (WI B db m lb ⟨#[]⟩ va0 0 vn0 0 w1 w6) := Lib.hid ⟨_, _, _, _, _, HX6.out, HOk1.out.mono (by decide), inv0, ⟨⟨by decide, by decide⟩, ⟨Int.le_refl _, by decide⟩, ⟨Int.le_refl _, Int.le_refl _⟩, Nat.le_refl _⟩, Nat.le_refl _, Nat.le_refl _, sm0.mono (by decide)⟩
  clear hva0 hvn0 HX5 HX6
  go_wp2_with (fail)
  refine loop_all l A n c db m B w w1 Hn hn0 HA HR HB1 HB _ _ _ _ _ _ _ _ _ _ _ _ _ _ _ _ _ _ ?hexit _ _ _ _ _ _ _ _ _ _ _ _ _ _ _ _ _ _ _ _ _ _ _ _ _ _ _ _ _ _ _ _ _ _ _ _ _ _ _ _ _ _ _ _ _ _ _ _ _ _ _ _ _ _ _ _ _ _ _ _ _ _ _ _ _ _ _ _ _ _ _ _ _ _ _ _ _ _ _ _ _ _ _ _ _ _ _ _ _ _ _ _ _ _ _ _ _ _ _ _ _ _ _ _ _ _ _ _ _ _ _ _ _ _ _ _ _ _ _ _ _ _ _ _ _ _ _ _ _ _ _ _ _ _ _ _ _ _ _ _ _ _ _ _ _ _ _ _ _ _ _ _ _ _ _ _ _ _ _ _ _ _ _ _ _ _ _ _ _ _ _ _ _ _ _ _ _ _ _ _ _ _ _ _ _ _ _ _ _ _ ?hrel
  case hrel => exact ⟨0, lb, ⟨#[]⟩, 0, by omega, by omega, rfl, rfl, rfl, rfl, HP0⟩
  case hexit =>
    intro a' w' hx
    unfold FX at hx
    obtain ⟨u2, hx⟩ := hx
    obtain ⟨u4, hx⟩ := hx
    obtain ⟨u6, hx⟩ := hx
    obtain ⟨u7, hx⟩ := hx
    obtain ⟨u8, hx⟩ := hx
    obtain ⟨u9, hx⟩ := hx
    obtain ⟨u10, hx⟩ := hx
    obtain ⟨u11, hx⟩ := hx
    obtain ⟨u12, hx⟩ := hx
    obtain ⟨u13, hx⟩ := hx
    obtain ⟨u14, hx⟩ := hx
    obtain ⟨u15, hx⟩ := hx
    obtain ⟨u16, hx⟩ := hx
    obtain ⟨u17, hx⟩ := hx
    obtain ⟨u18, hx⟩ := hx
    obtain ⟨u19, hx⟩ := hx
    obtain ⟨u20, hx⟩ := hx
    obtain ⟨u36, hx⟩ := hx
    obtain ⟨u37, hx⟩ := hx
    obtain ⟨u38, hx⟩ := hx
    obtain ⟨u39, hx⟩ := hx
    obtain ⟨u40, hx⟩ := hx
    obtain ⟨u41, hx⟩ := hx
    obtain ⟨u42, hx⟩ := hx
    obtain ⟨u43, hx⟩ := hx
    obtain ⟨u44, hx⟩ := hx
    obtain ⟨u45, hx⟩ := hx
    obtain ⟨u46, hx⟩ := hx
    obtain ⟨u47, hx⟩ := hx
    obtain ⟨u48, hx⟩ := hx
    obtain ⟨u49, hx⟩ := hx
    obtain ⟨u50, hx⟩ := hx
    obtain ⟨u51, hx⟩ := hx
    obtain ⟨u52, hx⟩ := hx
    obtain ⟨u53, hx⟩ := hx
    obtain ⟨u54, hx⟩ := hx
    obtain ⟨u55, hx⟩ := hx
    obtain ⟨u56, hx⟩ := hx
    obtain ⟨u57, hx⟩ := hx
    obtain ⟨u58, hx⟩ := hx
    obtain ⟨u59, hx⟩ := hx
    obtain ⟨u60, hx⟩ := hx
    obtain ⟨u61, hx⟩ := hx
    obtain ⟨u62, hx⟩ := hx
    obtain ⟨u63, hx⟩ := hx
    obtain ⟨u64, hx⟩ := hx
    obtain ⟨u65, hx⟩ := hx
    obtain ⟨u66, hx⟩ := hx
    obtain ⟨u67, hx⟩ := hx
    obtain ⟨u68, hx⟩ := hx
    obtain ⟨u69, hx⟩ := hx
    obtain ⟨u70, hx⟩ := hx
    obtain ⟨u71, hx⟩ := hx
    obtain ⟨u72, hx⟩ := hx
    obtain ⟨u73, hx⟩ := hx
    obtain ⟨u74, hx⟩ := hx
    obtain ⟨u75, hx⟩ := hx
    obtain ⟨u76, hx⟩ := hx
    obtain ⟨u77, hx⟩ := hx
    obtain ⟨u78, hx⟩ := hx
    obtain ⟨u79, hx⟩ := hx
    obtain ⟨u80, hx⟩ := hx
    obtain ⟨u81, hx⟩ := hx
    obtain ⟨u82, hx⟩ := hx
    obtain ⟨u83, hx⟩ := hx
    obtain ⟨u84, hx⟩ := hx
    obtain ⟨u85, hx⟩ := hx
    obtain ⟨u86, hx⟩ := hx
    obtain ⟨u87, hx⟩ := hx
    obtain ⟨u88, hx⟩ := hx
    obtain ⟨u89, hx⟩ := hx
    obtain ⟨u90, hx⟩ := hx
    obtain ⟨u91, hx⟩ := hx
    obtain ⟨u92, hx⟩ := hx
    obtain ⟨u93, hx⟩ := hx
    obtain ⟨u94, hx⟩ := hx
    obtain ⟨u95, hx⟩ := hx
    obtain ⟨u96, hx⟩ := hx
    obtain ⟨u97, hx⟩ := hx
    obtain ⟨u98, hx⟩ := hx
    obtain ⟨u99, hx⟩ := hx
    obtain ⟨u100, hx⟩ := hx
    obtain ⟨u101, hx⟩ := hx
    obtain ⟨u102, hx⟩ := hx
    obtain ⟨u103, hx⟩ := hx
    obtain ⟨u104, hx⟩ := hx
    obtain ⟨u105, hx⟩ := hx
    obtain ⟨u106, hx⟩ := hx
    obtain ⟨u107, hx⟩ := hx
    obtain ⟨u108, hx⟩ := hx
    obtain ⟨u109, hx⟩ := hx
    obtain ⟨u110, hx⟩ := hx
    obtain ⟨u111, hx⟩ := hx
    obtain ⟨u112, hx⟩ := hx
    obtain ⟨u113, hx⟩ := hx
    obtain ⟨u114, hx⟩ := hx
    obtain ⟨u115, hx⟩ := hx
    obtain ⟨u116, hx⟩ := hx
    obtain ⟨u117, hx⟩ := hx
    obtain ⟨u118, hx⟩ := hx
    obtain ⟨u119, hx⟩ := hx
    obtain ⟨u120, hx⟩ := hx
    obtain ⟨u121, hx⟩ := hx
    obtain ⟨u122, hx⟩ := hx
    obtain ⟨u123, hx⟩ := hx
    obtain ⟨u124, hx⟩ := hx
    obtain ⟨u125, hx⟩ := hx
    obtain ⟨u126, hx⟩ := hx
    obtain ⟨u127, hx⟩ := hx
    obtain ⟨u128, hx⟩ := hx
    obtain ⟨u129, hx⟩ := hx
    obtain ⟨u130, hx⟩ := hx
    obtain ⟨u131, hx⟩ := hx
    obtain ⟨u132, hx⟩ := hx
    obtain ⟨u133, hx⟩ := hx
    obtain ⟨u134, hx⟩ := hx
    obtain ⟨u135, hx⟩ := hx
    obtain ⟨u136, hx⟩ := hx
    obtain ⟨u137, hx⟩ := hx
    obtain ⟨u138, hx⟩ := hx
    obtain ⟨u139, hx⟩ := hx
    obtain ⟨u140, hx⟩ := hx
    obtain ⟨u141, hx⟩ := hx
    obtain ⟨u142, hx⟩ := hx
    obtain ⟨u143, hx⟩ := hx
    obtain ⟨u144, hx⟩ := hx
    obtain ⟨u145, hx⟩ := hx
    obtain ⟨u146, hx⟩ := hx
    obtain ⟨u147, hx⟩ := hx
    obtain ⟨u148, hx⟩ := hx
    obtain ⟨u149, hx⟩ := hx
    obtain ⟨u150, hx⟩ := hx
    obtain ⟨u151, hx⟩ := hx
    obtain ⟨u152, hx⟩ := hx
    obtain ⟨u153, hx⟩ := hx
    obtain ⟨u154, hx⟩ := hx
    obtain ⟨u155, hx⟩ := hx
    obtain ⟨u156, hx⟩ := hx
    obtain ⟨u157, hx⟩ := hx
    obtain ⟨u158, hx⟩ := hx
    obtain ⟨u159, hx⟩ := hx
    obtain ⟨u160, hx⟩ := hx
    obtain ⟨u161, hx⟩ := hx
    obtain ⟨u162, hx⟩ := hx
    obtain ⟨u163, hx⟩ := hx
    obtain ⟨u164, hx⟩ := hx
    obtain ⟨u165, hx⟩ := hx
    obtain ⟨u166, hx⟩ := hx
    obtain ⟨u167, hx⟩ := hx
    obtain ⟨u168, hx⟩ := hx
    obtain ⟨u169, hx⟩ := hx
    obtain ⟨u170, hx⟩ := hx
    obtain ⟨u171, hx⟩ := hx
    obtain ⟨u172, hx⟩ := hx
    obtain ⟨u173, hx⟩ := hx
    obtain ⟨u174, hx⟩ := hx
    obtain ⟨u175, hx⟩ := hx
    obtain ⟨u176, hx⟩ := hx
    obtain ⟨u177, hx⟩ := hx
    obtain ⟨u178, hx⟩ := hx
    obtain ⟨u179, hx⟩ := hx
    obtain ⟨u180, hx⟩ := hx
    obtain ⟨u181, hx⟩ := hx
    obtain ⟨u182, hx⟩ := hx
    obtain ⟨u183, hx⟩ := hx
    obtain ⟨u184, hx⟩ := hx
    obtain ⟨u185, hx⟩ := hx
    obtain ⟨u186, hx⟩ := hx
    obtain ⟨u187, hx⟩ := hx
    obtain ⟨u188, hx⟩ := hx
    obtain ⟨u189, hx⟩ := hx
    obtain ⟨u190, hx⟩ := hx
    obtain ⟨u191, hx⟩ := hx
    obtain ⟨u192, hx⟩ := hx
    obtain ⟨u193, hx⟩ := hx
    obtain ⟨u194, hx⟩ := hx
    obtain ⟨u195, hx⟩ := hx
    obtain ⟨u196, hx⟩ := hx
    obtain ⟨u197, hx⟩ := hx
    obtain ⟨u198, hx⟩ := hx
    obtain ⟨u199, hx⟩ := hx
    obtain ⟨u200, hx⟩ := hx
    obtain ⟨u201, hx⟩ := hx
    obtain ⟨u202, hx⟩ := hx
    obtain ⟨u203, hx⟩ := hx
    obtain ⟨u204, hx⟩ := hx
    obtain ⟨u205, hx⟩ := hx
    obtain ⟨u206, hx⟩ := hx
    obtain ⟨u207, hx⟩ := hx
    obtain ⟨hb, rfl⟩ := hx
    go_wp2_with (fail)
    go_ret
    exact ⟨rfl, hb⟩
theorem lasts_walk (l : List Aw) (A : Option Addr) (c : Nat) (W : World) (h : Aws W A c l) (hT : Hid (TabOf W)) (w : World) (hw : w = W) :
    Calls Tryd.prog 11 #[.slice A l.length c] w fun e w' => e = .returned (.bool true) ∧ Below w.heap.size w w' := by
  subst hw
  exact lasts_main l A l.length c w hT rfl h
end Go.Proofs.YtdmjbdecemajpaaDoor.D
