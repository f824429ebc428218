/- Shapes: has an object one? -/
import Derived.Test.YtolndeolehkjoaaSh2
namespace Go.Proofs.Ytolndeolehkjoaa
set_option linter.unusedVariables false
set_option linter.unusedSimpArgs false
open Go.RowKit CodP
def bareO (o : Ob) : Ob := if o.kind = 1 then bare1 o else if o.kind = 2 then bare2 o else if o.kind = 3 then bare3 o else bare4 o
theorem bare_any (o : Ob) (f l c p i : Sl) (hk : 1 ≤ o.kind ∧ o.kind ≤ 4) (w : World) (hr : RowsR w o f l c p i) :
    Calls Try.prog 50 #[.agg (oc o f l c p i)] w fun e w' => ∃ f' l' c' p' i', e = .returned (.agg (oc (bareO o) f' l' c' p' i')) ∧ RowsR w' (bareO o) f' l' c' p' i' ∧ Below w.heap.size w w' := by
  have n0 : ∀ V (A : Option Addr), RowR V A [] := fun V A => RowR.nil V A
  rcases (by omega : o.kind = 1 ∨ o.kind = 2 ∨ o.kind = 3 ∨ o.kind = 4) with h | h | h | h
  · have hb : bareO o = bare1 o := if_pos h
    rw [hb]
    refine (bare1_any o f l c p i h w).mono ?_
    rintro e w' ⟨rfl, hb⟩
    have k := hr.below hb
    exact ⟨_, _, _, _, _, rfl, ⟨n0 _ _, n0 _ _, n0 _ _, k.pr, k.ir⟩, hb⟩
  · have hb : bareO o = bare2 o := by unfold bareO; rw [if_neg (by omega), if_pos h]
    rw [hb]
    refine (bare2_any o f l c p i h w).mono ?_
    rintro e w' ⟨rfl, hb⟩
    have k := hr.below hb
    exact ⟨_, _, _, _, _, rfl, ⟨n0 _ _, n0 _ _, k.cr, n0 _ _, n0 _ _⟩, hb⟩
  · have hb : bareO o = bare3 o := by unfold bareO; rw [if_neg (by omega), if_neg (by omega), if_pos h]
    rw [hb]
    refine (bare3_any o f l c p i h w).mono ?_
    rintro e w' ⟨rfl, hb⟩
    have k := hr.below hb
    exact ⟨_, _, _, _, _, rfl, ⟨n0 _ _, n0 _ _, k.cr, k.pr, k.ir⟩, hb⟩
  · have hb : bareO o = bare4 o := by unfold bareO; rw [if_neg (by omega), if_neg (by omega), if_neg (by omega)]
    rw [hb]
    refine (bare4_any o f l c p i h w).mono ?_
    rintro e w' ⟨rfl, hb⟩
    have k := hr.below hb
    exact ⟨_, _, _, _, _, rfl, ⟨n0 _ _, n0 _ _, k.cr, k.pr, k.ir⟩, hb⟩
theorem emp_dec {T : Type} [DecidableEq T] (l : List T) : decide (l = []) = l.isEmpty := by cases l <;> simp
theorem sz_dec (s : ByteArray) : decide (s = ⟨#[]⟩) = (s.size == 0) := by
  rw [Bool.eq_iff_iff, decide_eq_true_iff, beq_iff_eq, size0]
theorem int_dec (n : Int) : decide (n = 0) = (n == 0) := by
  rw [Bool.eq_iff_iff, decide_eq_true_iff, beq_iff_eq]
theorem bare_same (o : Ob) (hk : 1 ≤ o.kind ∧ o.kind ≤ 4) : sameB (bareO o) zeroOb = only o := by
  have he : (⟨#[]⟩ : ByteArray) = ByteArray.empty := rfl
  rcases (by omega : o.kind = 1 ∨ o.kind = 2 ∨ o.kind = 3 ∨ o.kind = 4) with h | h | h | h
  · have hb : bareO o = bare1 o := if_pos h
    rw [hb]
    rw [Bool.eq_iff_iff]
    simp only [sameB, flatB, Bool.and_eq_true, decide_eq_true_eq]
    simp [bare1, base0, zeroOb, only, h, size0]
    constructor <;> (intro hh; (try simp only [he] at hh ⊢); simp_all)
  · have hb : bareO o = bare2 o := by unfold bareO; rw [if_neg (by omega), if_pos h]
    rw [hb]
    rw [Bool.eq_iff_iff]
    simp only [sameB, flatB, Bool.and_eq_true, decide_eq_true_eq]
    simp [bare2, base0, zeroOb, only, h, size0]
    constructor <;> (intro hh; (try simp only [he] at hh ⊢); simp_all)
  · have hb : bareO o = bare3 o := by unfold bareO; rw [if_neg (by omega), if_neg (by omega), if_pos h]
    rw [hb]
    rw [Bool.eq_iff_iff]
    simp only [sameB, flatB, Bool.and_eq_true, decide_eq_true_eq]
    simp [bare3, base0, zeroOb, only, h, size0]
    constructor <;> (intro hh; (try simp only [he] at hh ⊢); simp_all)
  · have hb : bareO o = bare4 o := by unfold bareO; rw [if_neg (by omega), if_neg (by omega), if_neg (by omega)]
    rw [hb]
    rw [Bool.eq_iff_iff]
    simp only [sameB, flatB, Bool.and_eq_true, decide_eq_true_eq]
    simp [bare4, base0, zeroOb, only, h, size0]
    constructor <;> (intro hh; (try simp only [he] at hh ⊢); simp_all)
end Go.Proofs.Ytolndeolehkjoaa
