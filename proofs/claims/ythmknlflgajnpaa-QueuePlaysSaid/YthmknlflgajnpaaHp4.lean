/- The heap: down. -/
import Derived.Test.YthmknlflgajnpaaHp3
namespace Go.Proofs.Ythmknlflgajnpaa
set_option linter.unusedVariables false
set_option linter.unusedSimpArgs false
open Go.RowKit
/-- of two below, the one that is ahead -/
def kidL (p : List Item) (n i : Nat) : Nat := if 2 * i + 2 < n ∧ lessAt p (2 * i + 2) (2 * i + 1) = true then 2 * i + 2 else 2 * i + 1
theorem kidL_gt (p : List Item) (n i : Nat) : i < kidL p n i := by unfold kidL; split <;> omega
theorem kidL_lt (p : List Item) (n i : Nat) (h : 2 * i + 1 < n) : kidL p n i < n := by unfold kidL; split <;> omega
/-- down: an item sinks while one below it is ahead -/
def downL (p : List Item) (n i : Nat) : List Item :=
  if h : 2 * i + 1 < n then (if lessAt p (kidL p n i) i = true then downL (swapL p i (kidL p n i)) n (kidL p n i) else p) else p
  termination_by n - i
  decreasing_by have := kidL_gt p n i; omega
theorem downL_end (p : List Item) (n i : Nat) (h : ¬ 2 * i + 1 < n) : downL p n i = p := by unfold downL; rw [dif_neg h]
theorem downL_stop (p : List Item) (n i : Nat) (h : lessAt p (kidL p n i) i = false) : downL p n i = p := by unfold downL; simp [h]
theorem downL_go (p : List Item) (n i : Nat) (h0 : 2 * i + 1 < n) (h : lessAt p (kidL p n i) i = true) : downL p n i = downL (swapL p i (kidL p n i)) n (kidL p n i) := by
  rw [downL, dif_pos h0, if_pos h]
set_option maxRecDepth 100000 in
set_option maxHeartbeats 8000000 in
theorem down_any (w0 : World) (qb g cap : Nat) (cs : Array Value) (p : List Item) (n : Nat) (hn : n ≤ p.length) (hl : p.length ≤ 1000000) (w : World) (hp : HP w0 qb cs g cap p w) :
    Calls Try.prog 38 #[.iface 67 (.pointer (some ⟨qb, 7, none⟩)), .int .i64 0, .int .i64 n] w fun e w' => (∃ b, e = .returned (.bool b)) ∧ HP w0 qb cs g cap (downL p n 0) w' := by
  have HP0 := Lib.hid hp
  clear hp
  go_enter Try.func38, Try.ntmps38
  go_wp2
  go_loopw [7] (fun i wr => ∃ (k : Nat) (q : List Item), k ≤ 1000000 ∧ n ≤ q.length ∧ q.length ≤ 1000000 ∧ i = .int .i64 k ∧ Hid (HP w0 qb cs g cap q wr ∧ downL p n 0 = downL q n k)) (fun i _ => n - (intOf i).toNat)
  case atStart => exact ⟨0, p, by omega, hn, hl, rfl, Lib.hid ⟨HP0.out, rfl⟩⟩
  case round =>
    obtain ⟨k, q, hk, hnq, hql, rfl, H⟩ := hrel
    obtain ⟨j1, hj1⟩ : ∃ j1, j1 = 2 * k + 1 := ⟨_, rfl⟩
    have f1 : 2 * (k : Int) + 1 = (j1 : Int) := by omega
    have f0 : decide ((j1 : Int) < 0) = false := decide_eq_false (by omega)
    by_cases hend : j1 < n
    rotate_left
    · have d1 : decide (n ≤ j1) = true := decide_eq_true (by omega)
      have HS := Lib.hid (downL_end q n k (by omega))
      clear hj1 hend
      go_wp2
      go_ret
      exact ⟨⟨_, rfl⟩, by rw [H.out.2, HS.out]; exact H.out.1⟩
    · have d1 : decide (n ≤ j1) = false := decide_eq_false (by omega)
      obtain ⟨j2, hj2⟩ : ∃ j2, j2 = 2 * k + 2 := ⟨_, rfl⟩
      have f2 : (j1 : Int) + 1 = (j2 : Int) := by omega
      obtain ⟨x, hx⟩ : ∃ x, q[k]? = some x := ⟨_, List.getElem?_eq_getElem (by omega)⟩
      obtain ⟨y1, hy1⟩ : ∃ y, q[j1]? = some y := ⟨_, List.getElem?_eq_getElem (by omega)⟩
      have m1 := m_less qb _ wr H.out.1.cell
      have HX := Lib.hid hx
      have HY1 := Lib.hid hy1
      have HJ1 := Lib.hid hj1
      have HE := Lib.hid hend
      have HJ2 := Lib.hid hj2
      have hk1 : (k : Int) < j1 := by omega
      have hjb : j1 ≤ 2000001 := by omega
      by_cases h2 : j2 < n
      rotate_left
      · have d2 : decide (j2 < n) = false := decide_eq_false (by omega)
        have hkid : kidL q n k = j1 := by unfold kidL; rw [if_neg (by omega)]; omega
        have HK := Lib.hid hkid
        clear hj1 hj2 hx hy1 hkid h2 hend
        have C1 := Lib.hid (pless_any q g cap j1 k y1 x HY1.out HX.out wr H.out.1.pr)
        have hle := lessAt_eq HY1.out HX.out
        have hpw := Lib.hid (H.out.1)
        cases hlb : lessB y1 x
        · rw [hlb] at C1 hle
          have HS := Lib.hid (downL_stop q n k (by rw [HK.out]; exact hle))
          clear hle hlb
          go_wp2_with (go_at_call 59; refine C1.out.mono ?_; rintro e w1 ⟨rfl, hb⟩)
          go_ret
          exact ⟨⟨_, rfl⟩, by rw [H.out.2, HS.out]; exact hpw.out.below hb⟩
        · rw [hlb] at C1 hle
          have HS := Lib.hid (downL_go q n k (by have := HJ1.out; have := HE.out; omega) (by rw [HK.out]; exact hle))
          have HSW := Lib.hid (swapL_eq HX.out HY1.out)
          clear hle hlb
          go_upto_region 9 with (go_at_call 59; refine C1.out.mono ?_; rintro e w1 ⟨rfl, hb⟩)
          have h1 := hpw.out.below hb
          have m2 := m_swap qb _ w1 h1.cell
          have C2 := Lib.hid (pswap_any q g cap k j1 x y1 HX.out HY1.out w1 h1.pr)
          have H1 := Lib.hid h1
          clear hb h1 m1
          go_wp2_with (go_at_call 60; refine C2.out.mono ?_; rintro e w2 ⟨rfl, hp2, hg2⟩)
          have H2 := Lib.hid (H1.out.swap (by simp) hp2 hg2)
          clear hp2 hg2
          go_roundw
          case rel =>
            refine ⟨j1, _, ?_, ?_, ?_, rfl, Lib.hid ⟨H2.out, ?_⟩⟩
            · have := HJ1.out; have := HJ2.out; have := HE.out; omega
            · simp; omega
            · simp; omega
            · rw [H.out.2, HS.out, HK.out, HSW.out]
          case measure => have := HJ1.out; have := HJ2.out; have := HE.out; simp [intOf]; omega
      · have d2 : decide (j2 < n) = true := decide_eq_true (by omega)
        obtain ⟨y2, hy2⟩ : ∃ y, q[j2]? = some y := ⟨_, List.getElem?_eq_getElem (by omega)⟩
        have HY2 := Lib.hid hy2
        have HE2 := Lib.hid h2
        have C0 := Lib.hid (pless_any q g cap j2 j1 y2 y1 hy2 hy1 wr H.out.1.pr)
        have hle0 := lessAt_eq hy2 hy1
        have hjc : j2 ≤ 2000002 := by omega
        cases hl0 : lessB y2 y1
        · rw [hl0] at C0 hle0
          have hkid : kidL q n k = j1 := by
            unfold kidL
            rw [if_neg (by rintro ⟨_, h⟩; rw [← hj2, ← hj1, hle0] at h; cases h)]; omega
          have HK := Lib.hid hkid
          clear hj1 hj2 hx hy1 hy2 hkid h2 hle0 hl0 hend
          go_upto_region 8 with (go_at_call 59; refine C0.out.mono ?_; rintro e wa ⟨rfl, hba⟩)
          have HA := Lib.hid (H.out.1.below hba)
          clear hba m1
          have m1 := m_less qb _ wa HA.out.cell
          have C1 := Lib.hid (pless_any q g cap j1 k y1 x HY1.out HX.out wa HA.out.pr)
          have hle := lessAt_eq HY1.out HX.out
          have hpw := Lib.hid (HA.out)
          cases hlb : lessB y1 x
          · rw [hlb] at C1 hle
            have HS := Lib.hid (downL_stop q n k (by rw [HK.out]; exact hle))
            clear hle hlb
            go_wp2_with (go_at_call 59; refine C1.out.mono ?_; rintro e w1 ⟨rfl, hb⟩)
            go_ret
            exact ⟨⟨_, rfl⟩, by rw [H.out.2, HS.out]; exact hpw.out.below hb⟩
          · rw [hlb] at C1 hle
            have HS := Lib.hid (downL_go q n k (by have := HJ1.out; have := HE.out; omega) (by rw [HK.out]; exact hle))
            have HSW := Lib.hid (swapL_eq HX.out HY1.out)
            clear hle hlb
            go_upto_region 9 with (go_at_call 59; refine C1.out.mono ?_; rintro e w1 ⟨rfl, hb⟩)
            have h1 := hpw.out.below hb
            have m2 := m_swap qb _ w1 h1.cell
            have C2 := Lib.hid (pswap_any q g cap k j1 x y1 HX.out HY1.out w1 h1.pr)
            have H1 := Lib.hid h1
            clear hb h1 m1
            go_wp2_with (go_at_call 60; refine C2.out.mono ?_; rintro e w2 ⟨rfl, hp2, hg2⟩)
            have H2 := Lib.hid (H1.out.swap (by simp) hp2 hg2)
            clear hp2 hg2
            go_roundw
            case rel =>
              refine ⟨j1, _, ?_, ?_, ?_, rfl, Lib.hid ⟨H2.out, ?_⟩⟩
              · have := HJ1.out; have := HJ2.out; have := HE.out; omega
              · simp; omega
              · simp; omega
              · rw [H.out.2, HS.out, HK.out, HSW.out]
            case measure => have := HJ1.out; have := HJ2.out; have := HE.out; simp [intOf]; omega
        · rw [hl0] at C0 hle0
          have hkid : kidL q n k = j2 := by
            unfold kidL
            rw [if_pos ⟨by omega, by rw [← hj2, ← hj1]; exact hle0⟩]; omega
          have HK := Lib.hid hkid
          clear hj1 hj2 hx hy1 hy2 hkid h2 hle0 hl0 hend
          go_upto_region 8 with (go_at_call 59; refine C0.out.mono ?_; rintro e wa ⟨rfl, hba⟩)
          have HA := Lib.hid (H.out.1.below hba)
          clear hba m1
          have m1 := m_less qb _ wa HA.out.cell
          have C1 := Lib.hid (pless_any q g cap j2 k y2 x HY2.out HX.out wa HA.out.pr)
          have hle := lessAt_eq HY2.out HX.out
          have hpw := Lib.hid (HA.out)
          cases hlb : lessB y2 x
          · rw [hlb] at C1 hle
            have HS := Lib.hid (downL_stop q n k (by rw [HK.out]; exact hle))
            clear hle hlb
            go_wp2_with (go_at_call 59; refine C1.out.mono ?_; rintro e w1 ⟨rfl, hb⟩)
            go_ret
            exact ⟨⟨_, rfl⟩, by rw [H.out.2, HS.out]; exact hpw.out.below hb⟩
          · rw [hlb] at C1 hle
            have HS := Lib.hid (downL_go q n k (by have := HJ1.out; have := HE.out; omega) (by rw [HK.out]; exact hle))
            have HSW := Lib.hid (swapL_eq HX.out HY2.out)
            clear hle hlb
            go_upto_region 9 with (go_at_call 59; refine C1.out.mono ?_; rintro e w1 ⟨rfl, hb⟩)
            have h1 := hpw.out.below hb
            have m2 := m_swap qb _ w1 h1.cell
            have C2 := Lib.hid (pswap_any q g cap k j2 x y2 HX.out HY2.out w1 h1.pr)
            have H1 := Lib.hid h1
            clear hb h1 m1
            go_wp2_with (go_at_call 60; refine C2.out.mono ?_; rintro e w2 ⟨rfl, hp2, hg2⟩)
            have H2 := Lib.hid (H1.out.swap (by simp) hp2 hg2)
            clear hp2 hg2
            go_roundw
            case rel =>
              refine ⟨j2, _, ?_, ?_, ?_, rfl, Lib.hid ⟨H2.out, ?_⟩⟩
              · have := HJ1.out; have := HJ2.out; have := HE.out; omega
              · simp; omega
              · simp; omega
              · rw [H.out.2, HS.out, HK.out, HSW.out]
            case measure => have := HJ1.out; have := HJ2.out; have := HE.out; simp [intOf]; omega
end Go.Proofs.Ythmknlflgajnpaa
