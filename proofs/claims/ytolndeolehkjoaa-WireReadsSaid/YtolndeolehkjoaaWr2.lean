/- The writer of bytes: small numbers, texts, lists. -/
import Derived.Test.YtolndeolehkjoaaWr1
namespace Go.Proofs.Ytolndeolehkjoaa
set_option linter.unusedVariables false
set_option linter.unusedSimpArgs false
open Go.RowKit CodP
def eB (n : Int) : List UInt8 := [UInt8.ofNat n.toNat]
def eT (s : ByteArray) : List UInt8 := eB s.size ++ BL s
def eP (p : ByteArray × ByteArray) : List UInt8 := eT p.1 ++ eT p.2
theorem lies77 : B.Lies 77 := by unfold B.Lies; kernel_rfl
theorem lies75 : B.Lies 75 := by unfold B.Lies; kernel_rfl
theorem eT_len (s : ByteArray) : (eT s).length = s.size + 1 := by simp [eT, eB, BL_length]
/-- a row of cells that the writer leaves alone -/
def RowK (b : Nat) (w : World) (A : Option Addr) (cs : List Value) : Prop := ∀ j u, cs[j]? = some u → ∃ ad, A = some ad ∧ w.cell? (ad.add j) = some u ∧ Off b ad.block w
theorem add_block (a : Addr) (j : Nat) : (a.add j).block = a.block := by unfold Addr.add; split <;> rfl
theorem cell_fr {b : Nat} {w w1 : World} {a : Addr} {u : Value} (hF : FrB b w w1) (ho : Off b a.block w) (h : w.cell? a = some u) : w1.cell? a = some u := by
  have hlt := World.block_lt_of_cell? w a h
  have := hF.block a.block ho hlt
  simp only [World.cell?] at h ⊢
  rw [this]; exact h
theorem RowK.fr {b : Nat} {w w1 : World} {A : Option Addr} {cs : List Value} (h : RowK b w A cs) (hF : FrB b w w1) : RowK b w1 A cs := fun j u hj => by
  obtain ⟨ad, h1, h2, h3⟩ := h j u hj
  have hlt := World.block_lt_of_cell? w _ h2
  rw [add_block] at hlt
  exact ⟨ad, h1, cell_fr hF (by rw [add_block]; exact h3) h2, hF.off h3 hlt⟩
set_option maxRecDepth 100000 in
set_option maxHeartbeats 1000000 in
theorem wsmall_any (b : Nat) (l : List UInt8) (n : Int) (hn : 0 ≤ n ∧ n ≤ 255) (w : World) (h : Bd 77 b l w) (hlen : l.length ≤ 1000000) :
    Calls Try.prog 64 #[.pointer (some ⟨b, 0, none⟩), .int .i64 n] w fun e w' => e = .returned (.tuple #[]) ∧ Bd 77 b (l ++ eB n) w' ∧ FrB b w w' := by
  have hw : ((UInt8.ofNat n.toNat).toNat : Int) = n := by
    rw [UInt8.toNat_ofNat']; omega
  have hc := wbyte_any 77 lies77 b l (UInt8.ofNat n.toNat) w h hlen
  rw [hw] at hc
  have HC := Lib.hid hc
  clear h hw hc
  go_enter Try.func64, Try.ntmps64
  go_wp2_with (fail)
  refine HC.out.mono ?_
  rintro e w1 ⟨rfl, h1⟩
  have H1 := Lib.hid h1
  clear h1
  go_wp2
  exact bodyPost_end (results_none rfl _ _ _) rfl ⟨rfl, H1.out⟩
set_option maxRecDepth 100000 in
set_option maxHeartbeats 1000000 in
theorem wtext_any (b : Nat) (l : List UInt8) (s : ByteArray) (hs : s.size ≤ 200) (w : World) (h : Bd 77 b l w) (hlen : l.length ≤ 999000) :
    Calls Try.prog 65 #[.pointer (some ⟨b, 0, none⟩), .string s] w fun e w' => e = .returned (.tuple #[]) ∧ Bd 77 b (l ++ eT s) w' ∧ FrB b w w' := by
  have H0 := Lib.hid h
  clear h
  go_enter Try.func65, Try.ntmps65
  go_wp2_with (fail)
  refine (wsmall_any b l s.size (by omega) _ H0.out (by omega)).mono ?_
  rintro e w1 ⟨rfl, h1⟩
  have H1 := Lib.hid h1
  clear h1
  go_wp2_with (fail)
  refine (wstr_any 77 lies77 b _ s _ H1.out.1 (by simp [eB]; omega)).mono ?_
  rintro e w2 ⟨rfl, h2⟩
  have H2 := Lib.hid h2
  clear h2
  go_wp2
  refine bodyPost_end (results_none rfl _ _ _) rfl ⟨rfl, ?_, H1.out.2.trans H2.out.2⟩
  have := H2.out.1
  rw [List.append_assoc] at this
  exact this
set_option maxRecDepth 100000 in
set_option maxHeartbeats 1000000 in
theorem wtruth_any (b : Nat) (l : List UInt8) (t : Bool) (w : World) (h : Bd 77 b l w) (hlen : l.length ≤ 1000000) :
    Calls Try.prog 66 #[.pointer (some ⟨b, 0, none⟩), .bool t] w fun e w' => e = .returned (.tuple #[]) ∧ Bd 77 b (l ++ eB (if t then 1 else 0)) w' ∧ FrB b w w' := by
  have h1 := wsmall_any b l 1 (by omega) w h hlen
  have h0 := wsmall_any b l 0 (by omega) w h hlen
  have H1 := Lib.hid h1
  have H0 := Lib.hid h0
  clear h h1 h0
  cases t
  · go_enter Try.func66, Try.ntmps66
    go_wp2_with (fail)
    refine H0.out.mono ?_
    rintro e w1 ⟨rfl, k⟩
    have K := Lib.hid k
    clear k
    go_wp2
    exact bodyPost_end (results_none rfl _ _ _) rfl ⟨rfl, K.out⟩
  · go_enter Try.func66, Try.ntmps66
    go_wp2_with (fail)
    refine H1.out.mono ?_
    rintro e w1 ⟨rfl, k⟩
    have K := Lib.hid k
    clear k
    go_wp2
    exact bodyPost_end (results_none rfl _ _ _) rfl ⟨rfl, K.out⟩
theorem flat_le {T : Type} (f : T → List UInt8) (m : Nat) (l : List T) (h : ∀ x ∈ l, (f x).length ≤ m) : (l.flatMap f).length ≤ l.length * m := by
  induction l with
  | nil => simp
  | cons a l ih =>
    rw [List.flatMap_cons, List.length_append, List.length_cons, Nat.add_mul]
    have h1 := h a (by simp)
    have h2 := ih fun x hx => h x (by simp [hx])
    omega
theorem take_flat {T : Type} (f : T → List UInt8) (m : Nat) (l : List T) (k : Nat) (h : ∀ x ∈ l, (f x).length ≤ m) : ((l.take k).flatMap f).length ≤ l.length * m := by
  have h1 := flat_le f m (l.take k) fun x hx => h x (List.mem_of_mem_take hx)
  have h2 : (l.take k).length * m ≤ l.length * m := Nat.mul_le_mul_right _ (by simp; omega)
  omega
theorem take_next {T : Type} (f : T → List UInt8) (l : List T) (k : Nat) (x : T) (h : l[k]? = some x) : (l.take (k + 1)).flatMap f = (l.take k).flatMap f ++ f x := by
  rw [List.take_add_one, h, List.flatMap_append]; simp
theorem flat_get {T : Type} (cf : T → List Value) (sz : Nat) (hl : ∀ x, (cf x).length = sz) : ∀ (l : List T) (k : Nat) (x : T), l[k]? = some x → ∀ j, j < sz → (l.flatMap cf)[k * sz + j]? = (cf x)[j]?
  | [], k, x, h, j, hj => by simp at h
  | a :: l, 0, x, h, j, hj => by
      simp only [List.getElem?_cons_zero, Option.some.injEq] at h
      subst h
      rw [List.flatMap_cons, List.getElem?_append_left (by rw [hl]; omega)]
      simp
  | a :: l, k + 1, x, h, j, hj => by
      rw [List.flatMap_cons, List.getElem?_append_right (by rw [hl, Nat.add_mul]; omega), hl]
      have := flat_get cf sz hl l k x (by simpa using h) j hj
      rw [show (k + 1) * sz + j - sz = k * sz + j by rw [Nat.add_mul]; omega]
      exact this
set_option maxRecDepth 100000 in
set_option maxHeartbeats 1000000 in
theorem wtexts_any (b : Nat) (l : List UInt8) (L : List ByteArray) (A : Option Addr) (c : Nat) (hL : L.length ≤ 40) (hs : ∀ x ∈ L, x.size ≤ 200) (w : World) (h : Bd 77 b l w) (hr : RowK b w A (L.flatMap cS)) (hlen : l.length ≤ 900000) :
    Calls Try.prog 70 #[.pointer (some ⟨b, 0, none⟩), .slice A L.length c] w fun e w' => e = .returned (.tuple #[]) ∧ Bd 77 b (l ++ L.flatMap eT) w' ∧ FrB b w w' := by
  have H0 := Lib.hid h
  have HR := Lib.hid hr
  have HS := Lib.hid hs
  clear h hr hs
  go_enter Try.func70, Try.ntmps70
  go_wp2
  go_loopw [8] (fun i wr => ∃ k : Nat, k ≤ L.length ∧ i = .int .i64 k ∧ Hid (Bd 77 b (l ++ (L.take k).flatMap eT) wr ∧ FrB b w wr)) (fun i _ => L.length - (intOf i).toNat)
  case atStart => exact ⟨0, Nat.zero_le _, rfl, Lib.hid ⟨by simpa using H0.out, FrB.refl _ _⟩⟩
  case round =>
    obtain ⟨k, hk, rfl, H⟩ := hrel
    by_cases hkn : k < L.length
    · obtain ⟨x, hx⟩ : ∃ x, L[k]? = some x := ⟨_, List.getElem?_eq_getElem hkn⟩
      have hcell := flat_get cS 1 (fun _ => rfl) L k x hx 0 (by omega)
      obtain ⟨ad, hA, hc, ho⟩ := (HR.out.fr H.out.2) _ _ hcell
      simp only [Nat.mul_one, Nat.add_zero] at hc
      have hxs := HS.out x (List.mem_of_getElem? hx)
      have hn := take_next eT L k x hx
      have hle := take_flat eT 201 L k fun y hy => by rw [eT_len]; have := HS.out y hy; omega
      have HN := Lib.hid hn
      subst hA
      clear hcell hn ho hx
      go_wp2_with (fail)
      refine (wtext_any b _ x hxs _ H.out.1 (by rw [List.length_append]; omega)).mono ?_
      rintro e w1 ⟨rfl, h1⟩
      have H1 := Lib.hid h1
      clear h1
      go_wp2
      go_roundw
      case rel => exact ⟨k + 1, by omega, by go_num, Lib.hid ⟨by rw [HN.out, ← List.append_assoc]; exact H1.out.1, H.out.2.trans H1.out.2⟩⟩
      case measure => simp [intOf]; omega
    · obtain rfl : k = L.length := by omega
      go_wp2
      refine bodyPost_end (results_none rfl _ _ _) rfl ⟨rfl, ?_, H.out.2⟩
      have := H.out.1
      rw [List.take_length] at this
      exact this
theorem add_add (a : Addr) (m j : Nat) : (a.add m).add j = a.add (m + j) := by
  unfold Addr.add
  by_cases hj : j = 0
  · simp [hj]
  · by_cases hm : m = 0
    · simp [hm, hj]
    · rw [if_neg hj, if_neg hm, if_neg (by omega)]; simp [Nat.add_assoc]

theorem RowK.two (b : Nat) (w : World) (x y : ByteArray) (hb : b < w.heap.size) : RowK b (w.alloc (.cells #[.string x, .string y] 9)) (some ⟨w.heap.size, 0, none⟩) ([x, y].flatMap cS) := fun j u hj => by
  refine ⟨_, rfl, ?_, .inr ⟨by simp only; omega, _, _, _, G.heap_new _ _, by decide⟩⟩
  rw [G.add_plain, Nat.zero_add]
  match j, hj with
  | 0, hj => simp [cS] at hj; subst hj; exact cellk (cs := #[.string x, .string y]) _ _ (G.heap_new _ _) 0 (Nat.zero_lt_succ 1)
  | 1, hj => simp [cS] at hj; subst hj; exact cellk (cs := #[.string x, .string y]) _ _ (G.heap_new _ _) 1 (Nat.lt_succ_self 1)
set_option maxRecDepth 100000 in
set_option maxHeartbeats 1000000 in
theorem wpair_any (b xb : Nat) (l : List UInt8) (p : ByteArray × ByteArray) (hp : p.1.size ≤ 200 ∧ p.2.size ≤ 200) (w : World) (h : Bd 77 b l w) (hx : w.heap[xb]? = some (.cells #[.pointer (some ⟨b, 0, none⟩)] 72 (0, 0))) (hlen : l.length ≤ 900000) :
    Calls Try.prog 69 #[.agg #[.string p.1, .string p.2], .pointer (some ⟨xb, 0, none⟩)] w fun e w' => e = .returned (.tuple #[]) ∧ Bd 77 b (l ++ eP p) w' ∧ FrB b w w' := by
  obtain ⟨w1, hw1⟩ : ∃ w1, w1 = w.alloc (.cells #[.string p.1, .string p.2] 102) := ⟨_, rfl⟩
  obtain ⟨w2, hw2⟩ : ∃ w2, w2 = w1.alloc (.cells #[.string p.1, .string p.2] 9) := ⟨_, rfl⟩
  have b1 : Below w.heap.size w w1 := by rw [hw1]; exact bel_alloc _ _
  have b2 : Below w1.heap.size w1 w2 := by rw [hw2]; exact bel_alloc _ _
  have p1 : w1.heap[w.heap.size]? = some (.cells #[.string p.1, .string p.2] 102 (0, 0)) := by rw [hw1]; exact G.heap_new _ _
  have x1 : w1.heap[xb]? = some (.cells #[.pointer (some ⟨b, 0, none⟩)] 72 (0, 0)) := (b1.block _ (Array.getElem?_eq_some_iff.1 hx).1).trans hx
  have r2 := RowK.two b w1 p.1 p.2 (Nat.lt_of_lt_of_le h.lt b1.size)
  rw [← hw2] at r2
  have hc := wtexts_any b l [p.1, p.2] _ 2 (by simp) (by intro x hx; simp only [List.mem_cons, List.not_mem_nil, or_false] at hx; rcases hx with rfl | rfl; exact hp.1; exact hp.2) w2 ((h.below b1).below b2) r2 hlen
  have hs1 : w1.heap.size = w.heap.size + 1 := by rw [hw1]; simp
  have cx : w1.cell? ⟨xb, 0, none⟩ = some (.pointer (some ⟨b, 0, none⟩)) := by simp [World.cell?, x1]
  have c0 : w1.cell? ⟨w.heap.size, 0, none⟩ = some (.string p.1) := by simp [World.cell?, p1]
  have c1 : w1.cell? ⟨w.heap.size, 1, none⟩ = some (.string p.2) := by simp [World.cell?, p1]
  have HC := Lib.hid hc
  have F2 := Lib.hid ((FrB.of_below (b := b) b1).trans (FrB.of_below b2))
  have HW1 := Lib.hid hw1
  have HW2 := Lib.hid hw2
  clear h hx b1 b2 p1 x1 r2 hc hw1 hw2 hs1
  go_enter Try.func69, Try.ntmps69
  go_upto_region 1 with (fail)
  rw [← HW1.out]
  go_wp2_with (fail)
  rw [← HW2.out]
  refine HC.out.mono ?_
  rintro e w3 ⟨rfl, h3⟩
  have H3 := Lib.hid h3
  clear h3
  go_wp2
  refine bodyPost_end (results_none rfl _ _ _) rfl ⟨rfl, ?_, F2.out.trans H3.out.2⟩
  have := H3.out.1
  simp only [List.flatMap_cons, List.flatMap_nil, List.append_nil] at this
  exact this

set_option maxRecDepth 100000 in
set_option maxHeartbeats 1000000 in
theorem wlaystr_any (b : Nat) (l : List UInt8) (L : List ByteArray) (A : Option Addr) (c : Nat) (hL : L.length ≤ 40) (hs : ∀ x ∈ L, x.size ≤ 200) (w : World) (h : Bd 77 b l w) (hr : RowK b w A (L.flatMap cS)) (hlen : l.length ≤ 800000) :
    Calls Try.prog 67 #[.pointer (some ⟨b, 0, none⟩), .slice A L.length c, .func (.func 65) #[.pointer (some ⟨b, 0, none⟩)] #[]] w fun e w' => e = .returned (.tuple #[]) ∧ Bd 77 b (l ++ (eB L.length ++ L.flatMap eT)) w' ∧ FrB b w w' := by
  have HS := Lib.hid hs
  have HR := Lib.hid hr
  have hc := wsmall_any b l L.length (by omega) w h (by omega)
  have HC := Lib.hid hc
  clear h hr hs hc
  go_enter Try.func67, Try.ntmps67
  go_wp2_with (fail)
  refine HC.out.mono ?_
  rintro e w0 ⟨rfl, h0⟩
  have H0 := Lib.hid h0
  clear h0
  go_wp2_with (fail)
  go_loopw [14] (fun i wr => ∃ k : Nat, k ≤ L.length ∧ i = .int .i64 k ∧ Hid (Bd 77 b (l ++ (eB L.length ++ (L.take k).flatMap eT)) wr ∧ FrB b w wr)) (fun i _ => L.length - (intOf i).toNat)
  case atStart => exact ⟨0, Nat.zero_le _, rfl, Lib.hid ⟨by simpa using H0.out.1, H0.out.2⟩⟩
  case round =>
    obtain ⟨k, hk, rfl, H⟩ := hrel
    by_cases hkn : k < L.length
    · obtain ⟨x, hx⟩ : ∃ x, L[k]? = some x := ⟨_, List.getElem?_eq_getElem hkn⟩
      have hcell := flat_get cS 1 (fun _ => rfl) L k x hx 0 (by omega)
      obtain ⟨ad, hA, hc, ho⟩ := (HR.out.fr H.out.2) _ _ hcell
      simp only [Nat.mul_one, Nat.add_zero] at hc
      subst hA
      clear hcell ho
      have hxs := HS.out x (List.mem_of_getElem? hx)
      have hn := take_next eT L k x hx
      have hle := take_flat eT 402 L k fun y hy => by have := HS.out y hy; rw [eT_len]; omega
      have HN := Lib.hid hn
      have hlx : (l ++ (eB L.length ++ (L.take k).flatMap eT)).length ≤ 900000 := by rw [List.length_append, List.length_append]; simp only [eB, List.length_cons, List.length_nil]; omega
      have HLX := Lib.hid hlx
      have HXS := Lib.hid hxs
      clear hn hlx hle hx hxs
      go_wp2_with (fail)
      refine (wtext_any b _ x HXS.out _ H.out.1 (by have := HLX.out; omega)).mono ?_
      rintro e w1 ⟨rfl, h1⟩
      have H1 := Lib.hid h1
      clear h1
      go_wp2
      go_roundw
      case rel => exact ⟨k + 1, by omega, by go_num, Lib.hid ⟨by rw [HN.out, ← List.append_assoc (eB _), ← List.append_assoc l]; exact H1.out.1, H.out.2.trans H1.out.2⟩⟩
      case measure => simp [intOf]; omega
    · obtain rfl : k = L.length := by omega
      go_wp2
      refine bodyPost_end (results_none rfl _ _ _) rfl ⟨rfl, ?_, H.out.2⟩
      have := H.out.1
      rw [List.take_length] at this
      exact this

set_option maxRecDepth 100000 in
set_option maxHeartbeats 1000000 in
theorem wlayint_any (b : Nat) (l : List UInt8) (L : List Int) (A : Option Addr) (c : Nat) (hL : L.length ≤ 40) (hs : ∀ x ∈ L, 0 ≤ x ∧ x ≤ 255) (w : World) (h : Bd 77 b l w) (hr : RowK b w A (L.flatMap cI)) (hlen : l.length ≤ 800000) :
    Calls Try.prog 71 #[.pointer (some ⟨b, 0, none⟩), .slice A L.length c, .func (.func 64) #[.pointer (some ⟨b, 0, none⟩)] #[]] w fun e w' => e = .returned (.tuple #[]) ∧ Bd 77 b (l ++ (eB L.length ++ L.flatMap eB)) w' ∧ FrB b w w' := by
  have HS := Lib.hid hs
  have HR := Lib.hid hr
  have hc := wsmall_any b l L.length (by omega) w h (by omega)
  have HC := Lib.hid hc
  clear h hr hs hc
  go_enter Try.func71, Try.ntmps71
  go_wp2_with (fail)
  refine HC.out.mono ?_
  rintro e w0 ⟨rfl, h0⟩
  have H0 := Lib.hid h0
  clear h0
  go_wp2_with (fail)
  go_loopw [14] (fun i wr => ∃ k : Nat, k ≤ L.length ∧ i = .int .i64 k ∧ Hid (Bd 77 b (l ++ (eB L.length ++ (L.take k).flatMap eB)) wr ∧ FrB b w wr)) (fun i _ => L.length - (intOf i).toNat)
  case atStart => exact ⟨0, Nat.zero_le _, rfl, Lib.hid ⟨by simpa using H0.out.1, H0.out.2⟩⟩
  case round =>
    obtain ⟨k, hk, rfl, H⟩ := hrel
    by_cases hkn : k < L.length
    · obtain ⟨x, hx⟩ : ∃ x, L[k]? = some x := ⟨_, List.getElem?_eq_getElem hkn⟩
      have hcell := flat_get cI 1 (fun _ => rfl) L k x hx 0 (by omega)
      obtain ⟨ad, hA, hc, ho⟩ := (HR.out.fr H.out.2) _ _ hcell
      simp only [Nat.mul_one, Nat.add_zero] at hc
      subst hA
      clear hcell ho
      have hxs := HS.out x (List.mem_of_getElem? hx)
      have hn := take_next eB L k x hx
      have hle := take_flat eB 402 L k fun y hy => by have := HS.out y hy; simp [eB]
      have HN := Lib.hid hn
      have hlx : (l ++ (eB L.length ++ (L.take k).flatMap eB)).length ≤ 900000 := by rw [List.length_append, List.length_append]; simp only [eB, List.length_cons, List.length_nil]; omega
      have HLX := Lib.hid hlx
      have HXS := Lib.hid hxs
      clear hn hlx hle hx hxs
      go_wp2_with (fail)
      refine (wsmall_any b _ x HXS.out _ H.out.1 (by have := HLX.out; omega)).mono ?_
      rintro e w1 ⟨rfl, h1⟩
      have H1 := Lib.hid h1
      clear h1
      go_wp2
      go_roundw
      case rel => exact ⟨k + 1, by omega, by go_num, Lib.hid ⟨by rw [HN.out, ← List.append_assoc (eB _), ← List.append_assoc l]; exact H1.out.1, H.out.2.trans H1.out.2⟩⟩
      case measure => simp [intOf]; omega
    · obtain rfl : k = L.length := by omega
      go_wp2
      refine bodyPost_end (results_none rfl _ _ _) rfl ⟨rfl, ?_, H.out.2⟩
      have := H.out.1
      rw [List.take_length] at this
      exact this

set_option maxRecDepth 100000 in
set_option maxHeartbeats 1000000 in
theorem wlaypair_any (b xb : Nat) (l : List UInt8) (L : List (ByteArray × ByteArray)) (A : Option Addr) (c : Nat) (hL : L.length ≤ 40) (hs : ∀ x ∈ L, x.1.size ≤ 200 ∧ x.2.size ≤ 200) (w : World) (h : Bd 77 b l w) (hr : RowK b w A (L.flatMap cP)) (hxb : w.heap[xb]? = some (.cells #[.pointer (some ⟨b, 0, none⟩)] 72 (0, 0))) (hxo : xb ≠ b) (hlen : l.length ≤ 800000) :
    Calls Try.prog 68 #[.pointer (some ⟨b, 0, none⟩), .slice A L.length c, .func (.func 69) #[] #[.pointer (some ⟨xb, 0, none⟩)]] w fun e w' => e = .returned (.tuple #[]) ∧ Bd 77 b (l ++ (eB L.length ++ L.flatMap eP)) w' ∧ FrB b w w' := by
  have HS := Lib.hid hs
  have HR := Lib.hid hr
  have hc := wsmall_any b l L.length (by omega) w h (by omega)
  have HC := Lib.hid hc
  have HX := Lib.hid hxb
  have HXO := Lib.hid (show Off b xb w from .inr ⟨hxo, _, _, _, hxb, by decide⟩)
  clear hxb hxo
  clear h hr hs hc
  go_enter Try.func68, Try.ntmps68
  go_wp2_with (fail)
  refine HC.out.mono ?_
  rintro e w0 ⟨rfl, h0⟩
  have H0 := Lib.hid h0
  clear h0
  go_wp2_with (fail)
  go_loopw [14] (fun i wr => ∃ k : Nat, k ≤ L.length ∧ i = .int .i64 k ∧ Hid (Bd 77 b (l ++ (eB L.length ++ (L.take k).flatMap eP)) wr ∧ FrB b w wr)) (fun i _ => L.length - (intOf i).toNat)
  case atStart => exact ⟨0, Nat.zero_le _, rfl, Lib.hid ⟨by simpa using H0.out.1, H0.out.2⟩⟩
  case round =>
    obtain ⟨k, hk, rfl, H⟩ := hrel
    by_cases hkn : k < L.length
    · obtain ⟨x, hx⟩ : ∃ x, L[k]? = some x := ⟨_, List.getElem?_eq_getElem hkn⟩
      have hcell := flat_get cP 2 (fun _ => rfl) L k x hx 0 (by omega)
      have hcell1 := flat_get cP 2 (fun _ => rfl) L k x hx 1 (by omega)
      obtain ⟨ad, hA, hc, ho⟩ := (HR.out.fr H.out.2) _ _ hcell
      obtain ⟨ad1, hA1, hc1, ho1⟩ := (HR.out.fr H.out.2) _ _ hcell1
      subst hA
      obtain rfl : ad = ad1 := by simpa using hA1
      simp only [Nat.add_zero] at hc
      rw [← add_add] at hc1
      have hc2 : wr.cell? ⟨(ad.add (k * 2)).block, (ad.add (k * 2)).off + 1, none⟩ = some (.string x.2) := hc1
      clear hcell hcell1 ho ho1 hA1 hc1
      have hxs := HS.out x (List.mem_of_getElem? hx)
      have hn := take_next eP L k x hx
      have hle := take_flat eP 402 L k fun y hy => by have := HS.out y hy; simp only [eP, List.length_append]; rw [eT_len, eT_len]; omega
      have HN := Lib.hid hn
      have hlx : (l ++ (eB L.length ++ (L.take k).flatMap eP)).length ≤ 900000 := by rw [List.length_append, List.length_append]; simp only [eB, List.length_cons, List.length_nil]; omega
      have HLX := Lib.hid hlx
      have HXS := Lib.hid hxs
      clear hn hlx hle hx hxs
      have xr : wr.heap[xb]? = some (.cells #[.pointer (some ⟨b, 0, none⟩)] 72 (0, 0)) := (H.out.2.block _ HXO.out (Array.getElem?_eq_some_iff.1 HX.out).1).trans HX.out
      have hcc := wpair_any b xb _ x HXS.out (wr.alloc (.cells #[.string x.1, .string x.2] 102)) (H.out.1.below (bel_alloc _ _)) (((bel_alloc wr _).block _ (Array.getElem?_eq_some_iff.1 xr).1).trans xr) HLX.out
      have HCC := Lib.hid hcc
      clear hcc xr
      go_wp2_with (fail)
      refine HCC.out.mono ?_
      rintro e w1 ⟨rfl, h1⟩
      have H1 := Lib.hid h1
      clear h1
      go_wp2
      go_roundw
      case rel => exact ⟨k + 1, by omega, by go_num, Lib.hid ⟨by rw [HN.out, ← List.append_assoc (eB _), ← List.append_assoc l]; exact H1.out.1, (H.out.2.trans (FrB.of_below (bel_alloc _ _))).trans H1.out.2⟩⟩
      case measure => simp [intOf]; omega
    · obtain rfl : k = L.length := by omega
      go_wp2
      refine bodyPost_end (results_none rfl _ _ _) rfl ⟨rfl, ?_, H.out.2⟩
      have := H.out.1
      rw [List.take_length] at this
      exact this
end Go.Proofs.Ytolndeolehkjoaa
