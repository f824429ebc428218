/- The walk of the law FrameTorn. -/
import Derived.Test.YtdmjbdecemajpaaDoorFrm9
namespace Go.Proofs.YtdmjbdecemajpaaDoor
open Go.RowKit SumP
theorem scan_all (l : List ByteArray) (hl : ∀ b ∈ l, b.size ≤ 65536) : scan (packs l) = (l, (packs l).size) := by
  have := scan_packs l hl ⟨#[]⟩ fOk_empty
  rwa [append_empty] at this
set_option maxRecDepth 100000 in
set_option maxHeartbeats 4000000 in
theorem frameTorn_walk (va : Value) (l : List ByteArray) (s : ByteArray) (hs : s.size ≤ 140737488351232) (a : Int) (w : World) (hT : Hid (TabOf w)) (ha : G.HasRow w 1 va l.length (strs l)) :
    Calls Tryd.prog 9 #[va, .string s, .int .i64 a] w fun e w' => e = .returned (.bool true) ∧ Below w.heap.size w w' := by
  have HA := Lib.hid ha
  obtain ⟨_, A, ca, rfl, hnc, hcm, hcell⟩ := ha
  obtain ⟨n, hn⟩ : ∃ n, n = l.length := ⟨_, rfl⟩
  rw [← hn] at hnc HA
  rw [← hn]
  unfold maxLen at hcm
  have hn63 : n ≤ 9223372036854775807 := by omega
  have Hcell := Lib.hid hcell
  have Hn := Lib.hid hn
  clear hcell hn
  by_cases h30 : 30 < n
  · go_enter Tryd.func9, Tryd.ntmps9
    go_wp2_with (go_at_call 19; refine (awake10 _ hT).mono ?_; rintro e w1 ⟨rfl, hb1⟩)
    go_ret
    exact ⟨rfl, hb1⟩
  by_cases h300 : 300 < s.size
  · go_enter Tryd.func9, Tryd.ntmps9
    go_wp2_with (go_at_call 19; refine (awake10 _ hT).mono ?_; rintro e w1 ⟨rfl, hb1⟩)
    go_ret
    exact ⟨rfl, hb1⟩
  have hd1 : decide ((30 : Int) < (n : Int)) = false := by simp; omega
  have hd2 : decide ((300 : Int) < (s.size : Int)) = false := by simp; omega
  go_enter Tryd.func9, Tryd.ntmps9
  go_wp2_with (go_at_call 19; refine (awake10 _ hT).mono ?_; rintro e w1 ⟨rfl, hb1⟩)
  clear hd1 hd2
  go_loopw [7] (fun i wr => ∃ k : Nat, k ≤ n ∧ i = .int .i64 k ∧ Below w.heap.size w wr ∧ Hid (∀ b ∈ l.take k, b.size ≤ 300)) (fun i _ => n - (intOf i).toNat)
  case atStart => exact ⟨0, by omega, by go_num, hb1, Lib.hid (by simp)⟩
  case round =>
    obtain ⟨k, hk, rfl, hb, H⟩ := hrel
    by_cases hlt : k < n
    · have hka : k < l.length := by have := Hn.out; omega
      obtain ⟨ad, rfl, hc0⟩ := Hcell.out k _ (strs_getElem l k hka)
      have c1 : wr.cell? (ad.add k) = some (.string l[k]) := G.cell_below hb hc0
      have hnx : l[k].size ≤ 300 → ∀ b ∈ l.take (k + 1), b.size ≤ 300 := by
        intro h b hb
        rw [take_snoc l k hka, List.mem_append] at hb
        rcases hb with hb | hb
        · exact H.out b hb
        · simp only [List.mem_singleton] at hb; rw [hb]; exact h
      have Hnx := Lib.hid hnx
      clear hnx hc0
      have hlt' : (k : Int) < n := by omega
      generalize l[k] = x at c1 Hnx
      clear hka
      by_cases hx : 300 < x.size
      · have hx' : (300 : Int) < x.size := by omega
        go_wp2
        go_ret
        exact ⟨rfl, hb⟩
      · have hx' : (x.size : Int) ≤ 300 := by omega
        go_wp2
        go_roundw
        case rel => exact ⟨k + 1, by omega, by go_num, hb, Lib.hid (Hnx.out (by omega))⟩
        case measure => simp [intOf]; omega
    · have hsz : ∀ b ∈ l, b.size ≤ 300 := by
        have h := H.out
        rwa [List.take_of_length_le (by have := Hn.out; omega)] at h
      have hT1 : Hid (TabOf wr) := Lib.hid (TabOf.below hT.out hb)
      have har : G.HasRow wr 1 (.slice A n ca) l.length (strs l) := by have := HA.out.below hb; rwa [Hn.out] at this ⊢
      have c28 := fun W hT h => pack_any (.slice A n ca) l (by have := Hn.out; omega) hsz W hT h
      have c20 := fun W hT => fOf_any s (by omega) W hT
      have hps := packs_size l hsz
      have hpl : l.length ≤ 30 := by have := Hn.out; omega
      obtain ⟨t, ht⟩ : ∃ t, t = packs l := ⟨_, rfl⟩
      obtain ⟨u, hu⟩ : ∃ u, u = frm s := ⟨_, rfl⟩
      have hus : u.size = 8 + s.size := by rw [hu, frm_size]
      have hm0 : 0 ≤ (IntKind.u64.wrap a).tmod (u.size : Int) := Int.tmod_nonneg _ (by rw [IntKind.wrap_u64]; omega)
      have hm1 : (IntKind.u64.wrap a).tmod (u.size : Int) < (u.size : Int) := Int.tmod_lt_of_pos _ (by omega)
      obtain ⟨p, hp⟩ := Int.eq_ofNat_of_zero_le hm0
      have hpu : p < u.size := by omega
      have hat : IntKind.i64.wrap ((IntKind.u64.wrap a).tmod (u.size : Int)) = (p : Int) := by rw [hp, IntKind.wrap_i64]; omega
      have hsc : scan (t ++ u.extract 0 p) = (l, t.size) := by
        rw [ht, hu]
        exact scan_packs l (fun b hb => by have := hsz b hb; omega) _ (torn s (by omega) p (by rw [← hu]; exact hpu))
      have hsa : scan t = (l, t.size) := by rw [ht]; exact scan_all l (fun b hb => by have := hsz b hb; omega)
      have hz1 : (u.extract 0 p).size ≤ 308 := by rw [ex_size] <;> omega
      have hz2 : (t ++ u.extract 0 p).size ≤ 100000 := by rw [ByteArray.size_append, ht]; omega
      have c24 := fun W hT => scan_any (t ++ u.extract 0 p) hz2 W hT
      rw [hsc] at c24
      have c26 := fun W hT => unpack_yes t (by rw [ht]; omega) W hT (by rw [hsa])
      rw [hsa] at c26
      rw [← ht] at c28
      rw [← hu] at c20
      have hu1 : u.size ≤ 308 := by omega
      have hu2 : 0 < u.size := by omega
      have hp2 : (p : Int) ≤ u.size := by omega
      have ht1 : t.size ≤ 10000 := by rw [ht]; omega
      have C28 := Lib.hid c28
      have C20 := Lib.hid c20
      have C24 := Lib.hid c24
      have C26 := Lib.hid c26
      have Har := Lib.hid har
      clear c28 c20 c24 c26 har hsz hps hpl ht hu hus hm0 hm1 hp hsc hsa
      go_wp2_with (first
        | (go_at_call 28; refine Calls.mono (C28.out _ hT1 Har.out) ?_; rintro e w2 ⟨rfl, hb2⟩; have hT2 : Hid (TabOf w2) := Lib.hid (TabOf.below hT1.out hb2))
        | (go_at_call 20; refine Calls.mono (C20.out _ hT2) ?_; rintro e w3 ⟨rfl, hb3⟩; have hT3 : Hid (TabOf w3) := Lib.hid (TabOf.below hT2.out hb3))
        | (go_at_call 24; refine Calls.mono (C24.out _ hT3) ?_; rintro e w4 ⟨v4, rfl, hv4, hb4⟩; have hT4 : Hid (TabOf w4) := Lib.hid (TabOf.below hT3.out hb4))
        | (go_at_call 26; refine Calls.mono (C26.out _ hT4) ?_; rintro e w5 ⟨v5, rfl, hv5, hb5⟩))
      have H4 := Lib.hid (hv4.below hb5)
      have H5 := Lib.hid hv5
      have HA5 := Lib.hid ((((Har.out.below hb2).below hb3).below hb4).below hb5)
      have B5 := Lib.hid (G.bthen' hb hb.size (G.bthen hb2 (G.bthen hb3 (G.bthen hb4 hb5))))
      clear hv4 hv5 hb2 hb3 hb4 hb5 hb
      refine (same_any _ _ _ _ _ H4.out HA5.out).mono ?_
      rintro e w6 ⟨rfl, hb6⟩
      have H5' := Lib.hid (H5.out.below hb6)
      have HA6 := Lib.hid (HA5.out.below hb6)
      have B6 := Lib.hid (G.bthen' B5.out B5.out.size hb6)
      clear H4 H5 HA5 B5 hb6
      go_wp2_with (fail)
      refine (same_any _ _ _ _ _ H5'.out HA6.out).mono ?_
      rintro e w7 ⟨rfl, hb7⟩
      have B7 := Lib.hid (G.bthen' B6.out B6.out.size hb7)
      clear H5' HA6 B6 hb7
      go_wp2
      go_ret
      exact ⟨rfl, B7.out⟩
end Go.Proofs.YtdmjbdecemajpaaDoor
