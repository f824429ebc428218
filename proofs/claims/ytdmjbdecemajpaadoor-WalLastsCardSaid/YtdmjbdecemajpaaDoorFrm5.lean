/- The walks of package frame and its laws: Same, Whole, Unpack. -/
import Derived.Test.YtdmjbdecemajpaaDoorFrm4
namespace Go.Proofs.YtdmjbdecemajpaaDoor
open Go.RowKit SumP
theorem strs_getElem (l : List ByteArray) (j : Nat) (h : j < l.length) : (strs l)[j]? = some (.string l[j]) := by
  unfold strs; rw [List.getElem?_map, List.getElem?_eq_getElem h]; rfl
theorem take_snoc (l : List ByteArray) (k : Nat) (h : k < l.length) : l.take (k + 1) = l.take k ++ [l[k]] := by rw [List.take_succ_eq_append_getElem h]
set_option maxRecDepth 100000 in
set_option maxHeartbeats 1000000 in
theorem same_any (va vb : Value) (la lb : List ByteArray) (w : World) (ha : G.HasRow w 1 va la.length (strs la)) (hb : G.HasRow w 1 vb lb.length (strs lb)) :
    Calls Tryd.prog 27 #[va, vb] w fun e w' => e = .returned (.bool (decide (la = lb))) ∧ Below w.heap.size w w' := by
  by_cases hl : la.length = lb.length
  · by_cases h0 : la.length = 0
    · have ea : la = [] := List.eq_nil_of_length_eq_zero h0
      have eb : lb = [] := List.eq_nil_of_length_eq_zero (by omega)
      subst ea; subst eb
      obtain ⟨_, A, ca, rfl, _, _, _⟩ := ha
      obtain ⟨_, B, cb, rfl, _, _, _⟩ := hb
      go_enter Tryd.func27, Tryd.ntmps27
      go_wp2
      refine wp_loop_rounds 1 ?_
      rw [rounds_succ]
      go_wp2
      go_ret
      exact ⟨rfl, Below.refl _ _⟩
    · obtain ⟨ad, ca, rfl, hca, hcm, hcell⟩ := ha.shape (by omega)
      obtain ⟨bd, cb, rfl, hcb, hcn, hdell⟩ := hb.shape (by omega)
      obtain ⟨n, hn⟩ : ∃ n, n = la.length := ⟨_, rfl⟩
      rw [← hl, ← hn]
      rw [← hn] at hca h0
      have Hcell := Lib.hid hcell
      have Hdell := Lib.hid hdell
      have Hn := Lib.hid hn
      have Hl := Lib.hid hl
      unfold maxLen at hcm
      have hnm : n ≤ 9223372036854775807 := by omega
      clear hcell hdell hn hl ha hb
      go_enter Tryd.func27, Tryd.ntmps27
      go_wp2
      go_loopw [5] (fun i wr => ∃ k : Nat, k ≤ n ∧ i = .int .i64 k ∧ (∃ q, wr = w.drewN q) ∧ Hid (la.take k = lb.take k)) (fun i _ => n - (intOf i).toNat)
      case atStart => exact ⟨0, by omega, by go_num, ⟨0, rfl⟩, Lib.hid (by simp)⟩
      case round =>
        obtain ⟨k, hk, rfl, ⟨q, rfl⟩, H⟩ := hrel
        by_cases hlt : k < n
        · have hka : k < la.length := by have := Hn.out; omega
          have hkb : k < lb.length := by have := Hn.out; have := Hl.out; omega
          have c1 : w.cell? (ad.add k) = some (.string la[k]) := Hcell.out k _ (strs_getElem la k hka)
          have c2 : w.cell? (bd.add k) = some (.string lb[k]) := Hdell.out k _ (strs_getElem lb k hkb)
          have t1 := take_snoc la k hka
          have t2 := take_snoc lb k hkb
          have hlt' : (k : Int) < n := by omega
          by_cases hxy : la[k] = lb[k]
          · have t3 : Hid (la.take (k + 1) = lb.take (k + 1)) := Lib.hid (by rw [t1, t2, hxy, H.out])
            rw [← hxy] at c2
            generalize la[k] = x at c1 c2
            clear t1 t2 hxy hka hkb
            go_wp2
            go_quiet (fail)
            go_wp2
            go_roundw
            case rel => exact ⟨k + 1, by omega, by go_num, ⟨_, rfl⟩, t3⟩
            case measure => simp [intOf]; omega
          · have hne := str_other hxy
            have hfin : decide (la = lb) = false := by
              rw [decide_eq_false_iff_not]
              intro he
              subst he
              exact hxy rfl
            have Hfin := Lib.hid hfin
            generalize la[k] = x at c1 hne
            generalize lb[k] = y at c2 hne
            clear t1 t2 hxy hka hkb hfin
            go_wp2
            go_quiet (fail)
            go_wp2
            go_ret
            exact ⟨by rw [Hfin.out]; rfl, G.bdrewN (G.bdrewN (Below.refl _ _) _) _⟩
        · have hfin : decide (la = lb) = true := by
            rw [decide_eq_true_eq]
            have h := H.out
            rw [List.take_of_length_le (by have := Hn.out; omega), List.take_of_length_le (by have := Hn.out; have := Hl.out; omega)] at h
            exact h
          have Hfin := Lib.hid hfin
          clear hfin
          go_wp2
          go_ret
          exact ⟨by rw [Hfin.out]; rfl, G.bdrewN (Below.refl _ _) _⟩
  · obtain ⟨_, A, ca, rfl, _, _, _⟩ := ha
    obtain ⟨_, B, cb, rfl, _, _, _⟩ := hb
    have hfin : decide (la = lb) = false := by
      rw [decide_eq_false_iff_not]
      intro he
      subst he
      exact hl rfl
    have hne : ((la.length : Int) != (lb.length : Int)) = true := by rw [bne_iff_ne]; omega
    have Hfin := Lib.hid hfin
    clear hfin
    obtain ⟨n, hn⟩ : ∃ n, n = la.length := ⟨_, rfl⟩
    obtain ⟨m, hm⟩ : ∃ m, m = lb.length := ⟨_, rfl⟩
    rw [← hn, ← hm] at hne
    rw [← hn, ← hm]
    clear hn hm hl
    go_enter Tryd.func27, Tryd.ntmps27
    go_wp2
    go_ret
    exact ⟨by rw [Hfin.out]; rfl, Below.refl _ _⟩

/-- is s just one frame? -/
def whole (s : ByteArray) : Bool := fOk s && decide (8 + fN s = s.size)
set_option maxRecDepth 100000 in
set_option maxHeartbeats 400000 in
theorem whole_yes (s : ByteArray) (hs : s.size ≤ 140737488351232) (w : World) (hT : Hid (TabOf w)) (h : whole s = true) :
    Calls Tryd.prog 22 #[.string s] w fun e w' => e = .returned (.tuple #[.string (fBody s), .int .i64 0]) ∧ Below w.heap.size w w' := by
  unfold whole at h
  simp only [Bool.and_eq_true, decide_eq_true_eq] at h
  have hbs := fBody_size h.1
  have c := fun W hT => first_yes s hs W hT h.1
  have hsz : ((fBody s).size : Int) + 8 = s.size := by omega
  obtain ⟨b, hbb⟩ : ∃ b, b = fBody s := ⟨_, rfl⟩
  rw [← hbb] at c hsz
  rw [← hbb]
  have hbz : b.size ≤ 140737488351232 := by omega
  have hne : (((b.size : Int) + 8) != (s.size : Int)) = false := by rw [hsz]; simp
  have C := Lib.hid c
  clear c hsz hbs h hbb
  go_enter Tryd.func22, Tryd.ntmps22
  go_wp2_with (first
    | (go_at_call 47; refine Calls.mono (C.out _ hT) ?_; rintro e w1 ⟨rfl, hb1⟩)
    | (go_at_call 21; refine (size_any _ hbz _).mono ?_; rintro e w3 ⟨rfl, rfl⟩))
  go_ret2
  exact ⟨rfl, hb1⟩
set_option maxRecDepth 100000 in
set_option maxHeartbeats 400000 in
theorem whole_no (s : ByteArray) (hs : s.size ≤ 140737488351232) (w : World) (hT : Hid (TabOf w)) (h : whole s = false) :
    Calls Tryd.prog 22 #[.string s] w fun e w' => e = .returned (.tuple #[.string ⟨#[]⟩, .int .i64 4]) ∧ Below w.heap.size w w' := by
  by_cases ho : fOk s = true
  · have hbs := fBody_size ho
    have c := fun W hT => first_yes s hs W hT ho
    have hx : 8 + fN s ≠ s.size := by unfold whole at h; simpa [ho] using h
    have hsz : ((fBody s).size : Int) + 8 ≠ s.size := by omega
    have hfit := fOk_fits ho
    have hbz : (fBody s).size ≤ 140737488351232 := by omega
    obtain ⟨b, hbb⟩ : ∃ b, b = fBody s := ⟨_, rfl⟩
    rw [← hbb] at c hsz hbz
    have hne : (((b.size : Int) + 8) != (s.size : Int)) = true := by rw [bne_iff_ne]; exact hsz
    have C := Lib.hid c
    clear c hsz hbs h hbb ho hx hfit
    go_enter Tryd.func22, Tryd.ntmps22
    go_wp2_with (first
      | (go_at_call 47; refine Calls.mono (C.out _ hT) ?_; rintro e w1 ⟨rfl, hb1⟩)
      | (go_at_call 21; refine (size_any _ hbz _).mono ?_; rintro e w3 ⟨rfl, rfl⟩))
    go_ret2
    exact ⟨rfl, hb1⟩
  · have c := fun W hT => first_no s hs W hT (by simpa using ho)
    have C := Lib.hid c
    clear c ho h
    go_enter Tryd.func22, Tryd.ntmps22
    go_wp2_with (go_at_call 47; refine Calls.mono (C.out _ hT) ?_; rintro e w1 ⟨b, rfl, hb1⟩)
    go_ret2
    exact ⟨rfl, hb1⟩
set_option maxRecDepth 100000 in
set_option maxHeartbeats 400000 in
theorem unpack_yes (s : ByteArray) (hs : s.size ≤ 100000) (w : World) (hT : Hid (TabOf w)) (h : (scan s).2 = s.size) :
    Calls Tryd.prog 26 #[.string s] w fun e w' => ∃ v, e = .returned (.tuple #[v, .int .i64 0]) ∧ G.HasRow w' 1 v (scan s).1.length (strs (scan s).1) ∧ Below w.heap.size w w' := by
  have c := fun W hT => scan_any s hs W hT
  rw [h] at c
  have C := Lib.hid c
  clear c h
  go_enter Tryd.func26, Tryd.ntmps26
  go_wp2_with (go_at_call 24; refine Calls.mono (C.out _ hT) ?_; rintro e w1 ⟨v, rfl, hv, hb1⟩)
  go_ret2
  exact ⟨v, rfl, hv, hb1⟩
set_option maxRecDepth 100000 in
set_option maxHeartbeats 400000 in
theorem unpack_no (s : ByteArray) (hs : s.size ≤ 100000) (w : World) (hT : Hid (TabOf w)) (h : (scan s).2 ≠ s.size) :
    Calls Tryd.prog 26 #[.string s] w fun e w' => e = .returned (.tuple #[.slice none 0 0, .int .i64 4]) ∧ Below w.heap.size w w' := by
  have c := fun W hT => scan_any s hs W hT
  have hne : (((scan s).2 : Int) != (s.size : Int)) = true := by rw [bne_iff_ne]; omega
  obtain ⟨m, hm⟩ : ∃ m, m = (scan s).2 := ⟨_, rfl⟩
  rw [← hm] at hne c
  have C := Lib.hid c
  clear c h hm
  go_enter Tryd.func26, Tryd.ntmps26
  go_wp2_with (go_at_call 24; refine Calls.mono (C.out _ hT) ?_; rintro e w1 ⟨v, rfl, hv, hb1⟩)
  go_ret2
  exact ⟨rfl, hb1⟩
end Go.Proofs.YtdmjbdecemajpaaDoor
