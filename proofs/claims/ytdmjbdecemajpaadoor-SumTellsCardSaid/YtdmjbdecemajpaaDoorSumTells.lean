/- The walk of the law SumTells: texts that differ in one to four neighbouring bytes have unlike sums. -/
import Derived.Test.YtdmjbdecemajpaaDoorSumLaws
import Derived.Lib.ConvBytes
namespace Go.Proofs.YtdmjbdecemajpaaDoor
open Go.RowKit SumP
/-- the bytes behind k turns -/
def updL (l : List Nat) (p n : Nat) : Nat → List Nat
  | 0 => l
  | k + 1 => (updL l p n k).set (p + k) ((updL l p n k).getD (p + k) 0 ^^^ (n / 2 ^ (8 * k) % 256))
theorem updL_length (l : List Nat) (p n k : Nat) : (updL l p n k).length = l.length := by
  induction k with
  | zero => rfl
  | succ k ih => simp [updL, ih]
theorem xor_lt256 {a b : Nat} (h : a < 256) (k : b < 256) : a ^^^ b < 256 := Nat.xor_lt_two_pow (n := 8) h k
theorem updL_lt (l : List Nat) (p n k : Nat) (h : ∀ b ∈ l, b < 256) : ∀ b ∈ updL l p n k, b < 256 := by
  induction k with
  | zero => exact h
  | succ k ih =>
    intro b hb
    have := List.mem_or_eq_of_mem_set hb
    rcases this with hb | rfl
    · exact ih b hb
    · refine xor_lt256 ?_ (Nat.mod_lt _ (by decide))
      rcases Nat.lt_or_ge (p + k) (updL l p n k).length with hl | hl
      · rw [List.getD_eq_getElem?_getD, List.getElem?_eq_getElem hl]; exact ih _ (List.getElem_mem hl)
      · rw [List.getD_eq_getElem?_getD, List.getElem?_eq_none hl]; decide
theorem getD_set (l : List Nat) (i j x : Nat) (h : i < l.length) : (l.set i x).getD j 0 = if i = j then x else l.getD j 0 := by
  simp only [List.getD_eq_getElem?_getD, List.getElem?_set]
  by_cases hij : i = j
  · subst hij; simp [h]
  · simp [hij]
theorem four_split (l : List Nat) (p : Nat) (h : p + 3 < l.length) : ∃ A a0 a1 a2 a3 B, l = A ++ a0 :: a1 :: a2 :: a3 :: B ∧ A.length = p := by
  have h1 : l.drop p ≠ [] := by simp; omega
  refine ⟨l.take p, l[p], l[p + 1], l[p + 2], l[p + 3], l.drop (p + 4), ?_, by simp; omega⟩
  have e : l.drop p = l[p] :: l[p + 1] :: l[p + 2] :: l[p + 3] :: l.drop (p + 4) := by
    rw [List.drop_eq_getElem_cons (by omega), List.drop_eq_getElem_cons (by omega), List.drop_eq_getElem_cons (by omega), List.drop_eq_getElem_cons (by omega)]
  rw [← e, List.take_append_drop]
theorem updL_four (A : List Nat) (a0 a1 a2 a3 : Nat) (B : List Nat) (n : Nat) : updL (A ++ a0 :: a1 :: a2 :: a3 :: B) A.length n 4 =
    A ++ (a0 ^^^ (n % 256)) :: (a1 ^^^ (n / 256 % 256)) :: (a2 ^^^ (n / 65536 % 256)) :: (a3 ^^^ (n / 16777216 % 256)) :: B := by
  simp [updL]
/-- the plain law -/
theorem tells (l : List Nat) (hl : ∀ b ∈ l, b < 256) (p : Nat) (hp : p + 3 < l.length) (n : Nat) (hn : n < 4294967296) (h0 : n ≠ 0) :
    run 4294967295 (updL l p n 4) ≠ run 4294967295 l := by
  obtain ⟨A, a0, a1, a2, a3, B, rfl, rfl⟩ := four_split l p hp
  rw [updL_four]
  have hA : run 4294967295 A < 4294967296 := run_lt A (by decide) (fun b hb => hl b (by simp [hb]))
  have k : ∀ x0 x1 x2 x3 : Nat, run 4294967295 (A ++ x0 :: x1 :: x2 :: x3 :: B) = run (run (run 4294967295 A) [x0, x1, x2, x3]) B := by
    intro x0 x1 x2 x3
    rw [← run_append, ← run_append]; simp
  rw [k, k]
  have b0 := hl a0 (by simp); have b1 := hl a1 (by simp); have b2 := hl a2 (by simp); have b3 := hl a3 (by simp)
  have hB : ∀ b ∈ B, b < 256 := fun b hb => hl b (by simp [hb])
  refine run_ne B (run_lt _ hA ?_) (run_lt _ hA ?_) hB ?_
  · intro b hb
    simp only [List.mem_cons, List.not_mem_nil, or_false] at hb
    rcases hb with rfl | rfl | rfl | rfl <;> exact xor_lt256 (by assumption) (Nat.mod_lt _ (by decide))
  · intro b hb
    simp only [List.mem_cons, List.not_mem_nil, or_false] at hb
    rcases hb with rfl | rfl | rfl | rfl <;> assumption
  · intro he
    have := four (Nat.mod_lt _ (by decide)) (Nat.mod_lt _ (by decide)) (Nat.mod_lt _ (by decide)) (Nat.mod_lt _ (by decide)) he.symm
    omega
/-- the text of bytes -/
def ofNb (l : List Nat) : ByteArray := strOfNums (l.map fun (x : Nat) => (x : Int))
theorem nb_ofNb (l : List Nat) (h : ∀ b ∈ l, b < 256) : nb (ofNb l) = l := by
  unfold nb ofNb
  rw [strOfNums_data]
  simp only [List.map_map]
  refine (List.map_congr_left (g := id) fun x hx => ?_).trans (List.map_id _)
  have := h x hx
  simp only [Function.comp, id, UInt8.toNat_ofNat']
  omega
theorem ofNb_size (l : List Nat) : (ofNb l).size = l.length := by simp [ofNb, strOfNums_size]
theorem bytesWorld_below (w : World) (e : TypeId) (s : ByteArray) : Below w.heap.size w (Lib.bytesWorld w e s) :=
  ⟨rfl, rfl, rfl, by rw [Lib.bytesWorld_size]; omega, fun i hi => Lib.bytesWorld_at_old w e s i hi⟩
theorem bytesWorld_frozen (w : World) (e : TypeId) (s : ByteArray) (j : Nat) (hj : j < s.size) : (Lib.bytesWorld w e s).frozen? ⟨w.heap.size, j, none⟩ = false := by
  have h : s.size ≤ (Lib.bytesCells w e s).size := by simp [Lib.bytesCells]
  unfold World.frozen?
  rw [Lib.bytesWorld_at_new]
  simp
  omega

set_option maxRecDepth 100000 in
set_option maxHeartbeats 1000000 in
theorem sumTells_walk (s : ByteArray) (hs : s.size ≤ 140737488351232) (a : Int) (n : Nat) (hn : n < 4294967296) (w : World) (hT : Hid (TabOf w)) :
    Calls Tryd.prog 5 #[.string s, .int .i64 a, .int .u32 n] w fun e w' => e = .returned (.bool true) ∧ Below w.heap.size w w' := by
  by_cases h1 : 4000 < s.size
  · go_enter Tryd.func5, Tryd.ntmps5
    go_wp2_with (go_at_call 12; refine (awake08 _ hT).mono ?_; rintro e w' ⟨rfl, rfl⟩)
    go_ret
    exact ⟨rfl, Below.refl _ _⟩
  by_cases h2 : s.size < 4
  · go_enter Tryd.func5, Tryd.ntmps5
    go_wp2_with (go_at_call 12; refine (awake08 _ hT).mono ?_; rintro e w' ⟨rfl, rfl⟩)
    go_ret
    exact ⟨rfl, Below.refl _ _⟩
  by_cases h3 : n = 0
  · subst h3
    go_enter Tryd.func5, Tryd.ntmps5
    go_wp2_with (go_at_call 12; refine (awake08 _ hT).mono ?_; rintro e w' ⟨rfl, rfl⟩)
    go_ret
    exact ⟨rfl, Below.refl _ _⟩
  have h3' : ((n : Int) == 0) = false := by rw [beq_eq_false_iff_ne]; omega
  have hc := fun W => Lib.run_convert_string_bytes (P := Tryd.prog) W 9 29 5 s Tryd.underlying9 Tryd.underlying29 Tryd.underlying5
  have hm0 : 0 ≤ (IntKind.u64.wrap a).tmod ((s.size : Int) - 3) := Int.tmod_nonneg _ (by rw [IntKind.wrap_u64]; omega)
  have hm1 : (IntKind.u64.wrap a).tmod ((s.size : Int) - 3) < (s.size : Int) - 3 := Int.tmod_lt_of_pos _ (by omega)
  obtain ⟨p, hp⟩ := Int.eq_ofNat_of_zero_le hm0
  have hps : p + 3 < s.size := by omega
  have hat : IntKind.i64.wrap ((IntKind.u64.wrap a).tmod ((s.size : Int) - 3)) = (p : Int) := by rw [hp, IntKind.wrap_i64]; omega
  clear hm0 hm1 hp
  have H3 := Lib.hid h3
  clear h3
  go_enter Tryd.func5, Tryd.ntmps5
  go_wp2_with (go_at_call 12; refine (awake08 _ hT).mono ?_; rintro e w' ⟨rfl, rfl⟩)
  clear hat hc
  go_loopw [8] (fun i wr => ∃ k : Nat, k ≤ 4 ∧ i = .int .i64 k ∧ Below w.heap.size w wr ∧ Hid (∀ j, j < s.size → wr.cell? ⟨w.heap.size, j, none⟩ = some (.int .u8 ((updL (nb s) p n k).getD j 0 : Nat)) ∧ wr.frozen? ⟨w.heap.size, j, none⟩ = false)) (fun i _ => 4 - (intOf i).toNat)
  case atStart =>
    refine ⟨0, by omega, rfl, bytesWorld_below _ _ _, Lib.hid (fun j hj => ⟨?_, bytesWorld_frozen _ _ _ _ hj⟩)⟩
    rw [Lib.bytesWorld_cell _ _ _ _ hj]
    show some (Value.int .u8 _) = some (Value.int .u8 (((nb s).getD j 0 : Nat) : Int))
    congr 3
    simp only [nb, List.getD_eq_getElem?_getD, List.getElem?_map]
    cases s.data.toList[j]? <;> rfl
  case round =>
    obtain ⟨k, hk, rfl, hb, H⟩ := hrel
    have hlen : (updL (nb s) p n k).length = s.size := by rw [updL_length, nb_length]
    have Hlen := Lib.hid hlen
    clear hlen
    by_cases hlt : k < 4
    · have h1 : IntKind.i64.wrap ((p : Int) + k) = (p : Int) + k := by rw [IntKind.wrap_i64]; omega
      have h2 : ((p : Int) + k).toNat = p + k := by omega
      have h3 : (p : Int) + k < s.size := by omega
      obtain ⟨c, f⟩ := H.out (p + k) (by omega)
      obtain ⟨x, hx⟩ : ∃ x, x = (updL (nb s) p n k).getD (p + k) 0 := ⟨_, rfl⟩
      have hx256 : x < 256 := by
        have hl : p + k < (updL (nb s) p n k).length := by rw [Hlen.out]; omega
        rw [hx, List.getD_eq_getElem?_getD, List.getElem?_eq_getElem hl]
        exact updL_lt _ _ _ _ (nb_lt s) _ (List.getElem_mem hl)
      rw [← hx] at c
      have Hx := Lib.hid hx
      clear hx
      go_wp2
      go_region
      go_wp2
      have ev : bits .xor .u8 (x : Int) ((n : Int) / 2 ^ (8 * k) % 256) = ((x ^^^ (n / 2 ^ (8 * k) % 256) : Nat) : Int) := by
        have hy : n / 2 ^ (8 * k) % 256 < 256 := Nat.mod_lt _ (by decide)
        rw [← u8_xor_nat x _ hx256 hy]
        congr 1
      rw [ev]
      refine ⟨⟨k + 1, by omega, by go_num, ((hb.setCell (by simp) _).drew), Lib.hid (fun j hj => ?_)⟩, by simp [intOf]; omega⟩
      obtain ⟨cj, fj⟩ := H.out j hj
      refine ⟨?_, by simpa using fj⟩
      simp only [World.cell?_drew]
      by_cases hjk : p + k = j
      · subst hjk
        rw [World.cell?_setCell_same _ _ _ c]
        show _ = some (Value.int .u8 (((updL (nb s) p n (k + 1)).getD (p + k) 0 : Nat) : Int))
        rw [updL, getD_set _ _ _ _ (by rw [Hlen.out]; omega), if_pos rfl, ← Hx.out]
      · rw [World.cell?_setCell_other (h := by intro h; injection h with _ h; exact hjk h), cj]
        show _ = some (Value.int .u8 (((updL (nb s) p n (k + 1)).getD j 0 : Nat) : Int))
        rw [updL, getD_set _ _ _ _ (by rw [Hlen.out]; omega), if_neg hjk]
    · have hk4 : k = 4 := by omega
      subst hk4
      obtain ⟨l, hl⟩ : ∃ l, l = updL (nb s) p n 4 := ⟨_, rfl⟩
      rw [← hl] at H Hlen
      have hl256 : ∀ b ∈ l, b < 256 := by rw [hl]; exact updL_lt _ _ _ _ (nb_lt s)
      have hcv : ∀ c, (convert 29 9 (.slice (some ⟨w.heap.size, 0, none⟩) s.size c)).run Tryd.prog wr = .ok (.string (ofNb l)) wr := fun c =>
        run_convert_bytes_arg wr 29 5 Tryd.underlying29 Tryd.underlying5 w.heap.size 0 s.size c (l.map fun (x : Nat) => (x : Int)) (by simp [Hlen.out]) (fun i hi => by
          rw [Nat.zero_add, (H.out i hi).1]
          congr 2
          simp only [List.getD_eq_getElem?_getD, List.getElem?_map]
          cases l[i]? <;> rfl) 9 Tryd.underlying9
      have hne : onN 0 (ofNb l) ≠ onN 0 s := by
        unfold onN
        rw [nb_ofNb l hl256, hl]
        have h := tells (nb s) (nb_lt s) p (by rw [nb_length]; omega) n hn H3.out
        have a1 := run_lt (updL (nb s) p n 4) (r := 4294967295) (by decide) (updL_lt _ _ _ _ (nb_lt s))
        have a2 := run_lt (nb s) (r := 4294967295) (by decide) (nb_lt s)
        simp only [Nat.sub_zero]
        omega
      have hsz : (ofNb l).size ≤ 140737488351232 := by rw [ofNb_size, Hlen.out]; exact hs
      obtain ⟨q1, hq1⟩ : ∃ q, q = onN 0 (ofNb l) := ⟨_, rfl⟩
      obtain ⟨q2, hq2⟩ : ∃ q, q = onN 0 s := ⟨_, rfl⟩
      have hT' : Hid (TabOf wr) := Lib.hid (TabOf.below hT hb)
      have c1 := of_any (ofNb l) hsz wr hT'
      have c2 := of_any s hs wr hT'
      rw [← hq1] at c1 hne; rw [← hq2] at c2 hne
      have C1 := Lib.hid c1; have C2 := Lib.hid c2
      have hnb : ((q1 : Int) != (q2 : Int)) = true := by rw [bne_iff_ne]; omega
      clear c1 c2 hne hq1 hq2 hl hl256 H Hlen
      go_wp2_with (first
        | (go_at_call_of 13 (Value.string s); refine Calls.mono C2.out ?_; rintro e w' ⟨rfl, rfl⟩)
        | (go_at_call 13; refine Calls.mono C1.out ?_; rintro e w' ⟨rfl, rfl⟩))
      go_ret
      exact ⟨rfl, hb⟩
end Go.Proofs.YtdmjbdecemajpaaDoor
