/- The walks of the reference's queue: Failed, Forget. -/
import Derived.Test.YthmknlflgajnpaaRef5
namespace Go.Proofs.Ythmknlflgajnpaa
open Go.RowKit
theorem flat3 {T : Type} (f : T → List Value) (hf : ∀ a, (f a).length = 3) : ∀ (l : List T) (k : Nat) (h : k < l.length) (j : Nat), j < 3 → (l.flatMap f)[k * 3 + j]? = (f l[k])[j]?
  | a :: l, 0, _, j, hj => by
    rw [List.flatMap_cons, List.getElem?_append_left (by rw [hf]; omega)]
    simp
  | a :: l, k + 1, h, j, hj => by
    have := flat3 f hf l k (by simpa using h) j hj
    rw [List.flatMap_cons, List.getElem?_append_right (by rw [hf]; omega), hf]
    rw [show (k + 1) * 3 + j - 3 = k * 3 + j by omega]
    simpa using this
theorem len3 {T : Type} (f : T → List Value) (hf : ∀ a, (f a).length = 3) (l : List T) : (l.flatMap f).length = l.length * 3 := by
  induction l with
  | nil => rfl
  | cons a l ih => rw [List.flatMap_cons, List.length_append, ih, hf, List.length_cons]; omega
theorem fc_one (r : Fl) : ∀ u ∈ fc r, u.oneCell' = true := by
  intro u hu; simp only [fc, List.mem_cons, List.not_mem_nil, or_false] at hu
  rcases hu with rfl | rfl | rfl <;> rfl
theorem ic_one (r : Item) : ∀ u ∈ ic r, u.oneCell' = true := by
  intro u hu; simp only [ic, List.mem_cons, List.not_mem_nil, or_false] at hu
  rcases hu with rfl | rfl | rfl <;> rfl
/-- a row of three cells each: its value, and what lies there -/
theorem row3 {T : Type} {f : T → List Value} (hf : ∀ a, (f a).length = 3) {w : World} {B e : Nat} {v : Value} {l : List T} {n : Nat} (h : w.ownsRow B e 3 v n (l.flatMap f)) :
    n = l.length ∧ ∃ A c, v = .slice A n c ∧ ∀ k (hk : k < l.length), ∃ g, A = some ⟨g, 0, none⟩ ∧ ∀ V, Below w.heap.size w V → ∀ j, j < 3 → V.cell? ⟨g, k * 3 + j, none⟩ = (f l[k])[j]? := by
  have hx := G.HasRow.of_owns h
  obtain ⟨hl, hh⟩ := h
  rw [len3 f hf] at hl
  refine ⟨by omega, ?_⟩
  rcases hh with ⟨rfl, rfl⟩ | ⟨g, cap, cur, rfl, h1, h2, h3, h4⟩
  · exact ⟨none, 0, rfl, fun k hk => by omega⟩
  · refine ⟨_, cap, rfl, fun k hk => ⟨g, rfl, fun V hb j hj => ?_⟩⟩
    obtain ⟨_, A, c, hv, _, _, hc⟩ := hx
    cases hv
    have hjk := flat3 f hf l k hk j hj
    have hsome : ∃ u, (f l[k])[j]? = some u := ⟨(f l[k])[j]'(by rw [hf]; exact hj), List.getElem?_eq_getElem _⟩
    obtain ⟨u, hu⟩ := hsome
    rw [hu]
    obtain ⟨ad, ha, hcell⟩ := hc (k * 3 + j) u (by rw [hjk]; exact hu)
    cases ha
    rw [G.add_plain, Nat.zero_add] at hcell
    exact G.cell_below hb hcell
def rfail (l : List Fl) (r : Ref) : Int := match l with
  | [] => 0
  | x :: l => if x.ref = r then x.n else rfail l r
theorem rfail_at : ∀ (l : List Fl) (r : Ref) (k : Nat) (hk : k < l.length), (∀ j (hj : j < l.length), j < k → l[j].ref ≠ r) → l[k].ref = r → rfail l r = l[k].n
  | x :: l, r, 0, _, _, h => by simp only [List.getElem_cons_zero] at h ⊢; simp [rfail, h]
  | x :: l, r, k + 1, hk, hno, h => by
    have hx : x.ref ≠ r := hno 0 (by simp) (by omega)
    rw [rfail, if_neg hx]
    exact rfail_at l r k (by simpa using hk) (fun j hj h1 => by have := hno (j + 1) (by simp; omega) (by omega); simpa using this) (by simpa using h)
theorem rfail_none : ∀ (l : List Fl) (r : Ref), (∀ j (hj : j < l.length), l[j].ref ≠ r) → rfail l r = 0
  | [], r, _ => rfl
  | x :: l, r, h => by
    have hx : x.ref ≠ r := h 0 (by simp)
    rw [rfail, if_neg hx]
    exact rfail_none l r (fun j hj => by have := h (j + 1) (by simp; omega); simpa using this)
set_option maxRecDepth 100000 in
set_option maxHeartbeats 2000000 in
theorem rfailed_any (B rb : Nat) (s : RS) (v : RV) (r : Ref) (w : World) (h : RInv B rb s v w) (hl : ∀ i, s.n i ≤ 1000000) :
    Calls Try.prog 25 #[.pointer (some ⟨rb, 0, none⟩), rv r] w fun e w' => e = .returned (.int .i64 (rfail s.fails r)) ∧ Below w.heap.size w w' := by
  obtain ⟨W, hW⟩ : ∃ W, W = w.alloc (.cells #[.int .i64 r.kind, .string r.name] 30) := ⟨_, rfl⟩
  have hbW : Below w.heap.size w W := by rw [hW]; exact bel_alloc _ _
  have A0 : RAt rb v W w.heap.size (refBox r) := by rw [hW]; exact RAt.new h _
  have hI := h.below hbW
  obtain ⟨hn, A, c, hv, hc⟩ := row3 (f := fc) (fun _ => rfl) (hI.rows 4)
  have hl4 := hl 4
  obtain ⟨n, hn'⟩ : ∃ n, n = s.n 4 := ⟨_, rfl⟩
  rw [← hn'] at hn hv hl4
  have c7 := hI.c7
  rw [hv] at c7
  have hlt := hI.lt
  have b0 := A0.k
  have b1 := A0.nm
  have HVv := Lib.hid hv
  have HN := Lib.hid hn
  have HC := Lib.hid hc
  have Hb := Lib.hid hbW
  have HI := Lib.hid hI
  have HA := Lib.hid A0
  have HW := Lib.hid hW
  rw [hW] at c7 b0 b1 hlt
  unfold rv
  clear hW hbW A0 hI hn hc hv h hl hn'
  go_enter Try.func25, Try.ntmps25
  go_wp2
  go_loopw [5] (fun i wr => ∃ k : Nat, k ≤ n ∧ i = .int .i64 k ∧ Hid (Below W.heap.size W wr) ∧ Hid (∀ j (hj : j < s.fails.length), j < k → (s.fails[j]).ref ≠ r)) (fun i _ => n - (intOf i).toNat)
  case atStart => exact ⟨0, by omega, by go_num, Lib.hid (by rw [HW.out]; exact Below.refl _ _), Lib.hid (by intro j _ h; omega)⟩
  case round =>
    obtain ⟨k, hk, rfl, HB, H⟩ := hrel
    have d7 := G.cell_below HB.out HI.out.c7
    rw [HVv.out] at d7
    have d0 := (HA.out.below HB.out).k
    have d1 := (HA.out.below HB.out).nm
    by_cases hkn : k < n
    · have hka : k < s.fails.length := by have := HN.out; omega
      obtain ⟨g, hg, hcell⟩ := HC.out k hka
      subst hg
      have e0 := hcell wr HB.out 0 (by decide)
      have e1 := hcell wr HB.out 1 (by decide)
      have e2 := hcell wr HB.out 2 (by decide)
      obtain ⟨x, hx⟩ : ∃ x, x = s.fails[k] := ⟨_, rfl⟩
      rw [← hx] at e0 e1 e2
      replace e0 : wr.cell? ⟨g, k * 3, none⟩ = some (.int .i64 x.ref.kind) := e0
      replace e1 : wr.cell? ⟨g, k * 3 + 1, none⟩ = some (.string x.ref.name) := e1
      replace e2 : wr.cell? ⟨g, k * 3 + 2, none⟩ = some (.int .i64 x.n) := e2
      have Hx := Lib.hid hx
      clear hx hcell
      by_cases he : x.ref = r
      · have heq := run_eq_ref x.ref r
        unfold rv at heq
        rw [decide_eq_true he] at heq
        have hfin : rfail s.fails r = x.n := by rw [Hx.out]; exact rfail_at _ _ k hka H.out (by rw [← Hx.out]; exact he)
        have Hf := Lib.hid hfin
        clear he hfin
        go_wp2
        go_quiet (fail)
        go_wp2
        go_ret
        exact ⟨by rw [Hf.out]; rfl, G.bdrewN (G.bthen Hb.out HB.out) _⟩
      · have heq := run_eq_ref x.ref r
        unfold rv at heq
        rw [decide_eq_false he] at heq
        have hnx : ∀ j (hj : j < s.fails.length), j < k + 1 → (s.fails[j]).ref ≠ r := by
          intro j hj h1 e
          rcases Nat.lt_or_ge j k with h2 | h2
          · exact H.out j hj h2 e
          · obtain rfl : j = k := by omega
            exact he (by rw [Hx.out]; exact e)
        have Hnx := Lib.hid hnx
        clear he hnx
        go_wp2
        go_quiet (fail)
        go_wp2
        go_roundw
        case rel => exact ⟨k + 1, by omega, by go_num, Lib.hid (G.bdrewN HB.out _), Hnx⟩
        case measure => simp [intOf]; omega
    · have hkn2 : k = n := by omega
      have hfin : rfail s.fails r = 0 := rfail_none _ _ (fun j hj => H.out j hj (by have := HN.out; omega))
      have Hf := Lib.hid hfin
      clear hfin
      subst hkn2
      go_wp2
      go_ret
      exact ⟨by rw [Hf.out]; rfl, G.bthen Hb.out HB.out⟩
end Go.Proofs.Ythmknlflgajnpaa
