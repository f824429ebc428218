/- Responses: the objects: all have a shape, two lists are alike. -/
import Derived.Test.YtolndeolehkjoaaWs0c
namespace Go.Proofs.Ytolndeolehkjoaa
set_option linter.unusedVariables false
set_option linter.unusedSimpArgs false
open Go.RowKit CodP
def sameObs : List Ob → List Ob → Bool
  | [], [] => true
  | a :: l, b :: m => sameB a b && sameObs l m
  | [], _ :: _ => false
  | _ :: _, [] => false
theorem sameObs_self : ∀ l : List Ob, sameObs l l = true
  | [] => rfl
  | a :: l => by simp only [sameObs, sameB_self, sameObs_self l, Bool.and_self]
theorem sameObs_len : ∀ l m : List Ob, l.length ≠ m.length → sameObs l m = false
  | [], [], h => absurd rfl h
  | a :: l, b :: m, h => by
    simp only [sameObs]
    rw [sameObs_len l m (fun e => h (by simp [e])), Bool.and_false]
  | [], _ :: _, _ => rfl
  | _ :: _, [], _ => rfl
theorem sameObs_ne : ∀ (l m : List Ob) (k : Nat) (a b : Ob), l[k]? = some a → m[k]? = some b → sameB a b = false → sameObs l m = false
  | [], _, _, _, _, h, _, _ => by simp at h
  | _ :: _, [], _, _, _, _, _, _ => rfl
  | x :: l, y :: m, 0, a, b, h1, h2, h3 => by
    simp at h1 h2
    subst h1; subst h2
    simp only [sameObs, h3, Bool.false_and]
  | x :: l, y :: m, k + 1, a, b, h1, h2, h3 => by
    simp only [List.getElem?_cons_succ] at h1 h2
    simp only [sameObs, sameObs_ne l m k a b h1 h2 h3, Bool.and_false]
theorem sameObs_all : ∀ (l m : List Ob), l.length = m.length → (∀ (k : Nat) (a b : Ob), l[k]? = some a → m[k]? = some b → sameB a b = true) → sameObs l m = true
  | [], [], _, _ => rfl
  | [], _ :: _, h, _ => by simp at h
  | _ :: _, [], h, _ => by simp at h
  | x :: l, y :: m, h, g => by
    simp only [sameObs]
    rw [g 0 x y rfl rfl, sameObs_all l m (by simpa using h) fun k a b h1 h2 => g (k + 1) a b (by simpa using h1) (by simpa using h2)]
    rfl
def nshape (e : OE) : Bool := !CodP.shape e.o
theorem box32 (w : World) (cs : Array Value) : ∃ w1, w1 = w.alloc (.cells cs 32) ∧ Below w.heap.size w w1 ∧ w1.heap[w.heap.size]? = some (.cells cs 32 (0, 0)) := ⟨_, rfl, bel_alloc _ _, G.heap_new _ _⟩
set_option maxRecDepth 100000 in
set_option maxHeartbeats 4000000 in
theorem nshape_any (e : OE) (hs : e.o.fins.length ≤ 1000000 ∧ e.o.labels.length ≤ 1000000 ∧ e.o.cidrs.length ≤ 1000000 ∧ e.o.fams.length ≤ 1000000 ∧ e.o.ips.length ≤ 1000000) (w : World) (hr : RowsR w e.o e.f e.l e.c e.p e.i) :
    Calls Try.prog 61 #[.agg (oc e.o e.f e.l e.c e.p e.i)] w fun y w' => y = .returned (.bool (nshape e)) ∧ Below w.heap.size w w' := by
  obtain ⟨w1, hw1, b1, p1⟩ := box32 w (oc e.o e.f e.l e.c e.p e.i)
  obtain ⟨x, hx⟩ : ∃ x, x = w.heap.size := ⟨_, rfl⟩
  rw [← hx] at p1
  have C1 := Lib.hid (shape_any e.o e.f e.l e.c e.p e.i hs w1 (hr.below b1))
  have HW := Lib.hid hw1
  have B1 := Lib.hid b1
  have P1 := Lib.hid p1
  clear b1 p1 hw1 hr hs
  go_enter Try.func61, Try.ntmps61
  go_upto_region 1 with (fail)
  rw [← HW.out, ← hx]
  clear hx
  go_wp2_with (refine wpList_load_row rfl 32 (.tmp 1) rfl x rfl 32 _ (0, 0) _ P1.out Try.underlying32 rfl size32 ?_)
  refine C1.out.mono ?_
  rintro y w2 ⟨rfl, hb2⟩
  have B2 := Lib.hid (B1.out.trans (belowLe B1.out.size hb2))
  clear hb2
  go_wp2
  go_ret
  exact ⟨rfl, B2.out⟩
set_option maxRecDepth 100000 in
set_option maxHeartbeats 4000000 in
theorem idxO_any (L : List OE) (A : Option Addr) (c : Nat) (hL : L.length ≤ 1000000) (hz : ∀ e ∈ L, e.o.fins.length ≤ 1000000 ∧ e.o.labels.length ≤ 1000000 ∧ e.o.cidrs.length ≤ 1000000 ∧ e.o.fams.length ≤ 1000000 ∧ e.o.ips.length ≤ 1000000) (w : World) (hr : ObsR w A L) :
    Calls Try.prog 93 #[.slice A L.length c, .func (.func 61) #[] #[]] w fun e w' => ∃ r : Int, e = .returned (.int .i64 r) ∧ decide (0 ≤ r) = L.any nshape ∧ Below w.heap.size w w' := by
  have HR := Lib.hid hr
  have HZ := Lib.hid hz
  clear hr hz
  go_enter Try.func93, Try.ntmps93
  go_wp2
  go_loopw [8] (fun i wr => ∃ k : Nat, k ≤ L.length ∧ i = .int .i64 k ∧ Hid ((L.take k).any nshape = false ∧ Below w.heap.size w wr)) (fun i _ => L.length - (intOf i).toNat)
  case atStart => exact ⟨0, Nat.zero_le _, rfl, Lib.hid ⟨by simp, Below.refl _ _⟩⟩
  case round =>
    obtain ⟨k, hk, rfl, H⟩ := hrel
    by_cases hkn : k < L.length
    · obtain ⟨e, he⟩ : ∃ e, L[k]? = some e := ⟨_, List.getElem?_eq_getElem hkn⟩
      obtain ⟨b, p, hA, hrg, hrows⟩ := (HR.out.below H.out.2).at he
      subst hA
      have HE := Lib.hid he
      have HRG := Lib.hid hrg
      have C1 := Lib.hid (nshape_any e (HZ.out e (List.mem_of_getElem? he)) wr hrows)
      clear he hrg hrows
      go_upto_region 4 with (fail)
      repeat (first | ((refine wpList_load_elem rfl (.tmp 14) rfl b (p + k * 19) rfl e HRG.out ?_); (try simp only [Act.put, s1, s2, s3])) | go_values | go_skip | go_guarded | go_step)
      go_wp2_with (fail)
      refine C1.out.mono ?_
      cases hl : nshape e
      · have hn := any_take nshape H.out.1 HE.out hl
        have HN := Lib.hid hn
        clear hl hn
        rintro y w1 ⟨rfl, hb⟩
        have HB := Lib.hid (G.bthen' H.out.2 H.out.2.size hb)
        clear hb
        go_wp2
        go_roundw
        case rel => exact ⟨k + 1, by omega, by go_num, Lib.hid ⟨HN.out, HB.out⟩⟩
        case measure => simp [intOf]; omega
      · have hn := any_hit nshape HE.out hl
        have HN := Lib.hid hn
        clear hl hn
        rintro y w1 ⟨rfl, hb⟩
        have HB := Lib.hid (G.bthen' H.out.2 H.out.2.size hb)
        clear hb
        go_wp2
        go_ret
        exact ⟨k, rfl, by rw [HN.out]; exact decide_eq_true (by omega), HB.out⟩
    · obtain rfl : k = L.length := by omega
      have hn : L.any nshape = false := by have := H.out.1; rwa [List.take_length] at this
      have HN := Lib.hid hn
      clear hn
      go_wp2
      go_ret
      exact ⟨-1, rfl, by rw [HN.out]; rfl, H.out.2⟩
set_option maxRecDepth 100000 in
set_option maxHeartbeats 1000000 in
theorem hasO_any (L : List OE) (A : Option Addr) (c : Nat) (hL : L.length ≤ 1000000) (hz : ∀ e ∈ L, e.o.fins.length ≤ 1000000 ∧ e.o.labels.length ≤ 1000000 ∧ e.o.cidrs.length ≤ 1000000 ∧ e.o.fams.length ≤ 1000000 ∧ e.o.ips.length ≤ 1000000) (w : World) (hr : ObsR w A L) :
    Calls Try.prog 60 #[.slice A L.length c, .func (.func 61) #[] #[]] w fun e w' => e = .returned (.bool (L.any nshape)) ∧ Below w.heap.size w w' := by
  have hc := idxO_any L A c hL hz w hr
  have HC := Lib.hid hc
  clear hc hr hz
  go_enter Try.func60, Try.ntmps60
  go_wp2_with (fail)
  refine HC.out.mono ?_
  rintro e w1 ⟨r, rfl, hd, hb⟩
  have HD := Lib.hid hd
  have HB := Lib.hid hb
  clear hd hb
  go_wp2
  go_ret
  exact ⟨by rw [← HD.out]; rfl, HB.out⟩
theorem ne_len (L M : List OE) (h : ¬ L.length = M.length) : sameObs (L.map (·.o)) (M.map (·.o)) = false := sameObs_len _ _ (by rw [List.length_map, List.length_map]; exact h)
theorem map_at {L : List OE} {k : Nat} {e : OE} (h : L[k]? = some e) : (L.map (·.o))[k]? = some e.o := by rw [List.getElem?_map, h]; rfl
def SameTo (L M : List OE) (k : Nat) : Prop := ∀ j, j < k → ∀ a b, L[j]? = some a → M[j]? = some b → sameB a.o b.o = true
theorem SameTo.zero (L M : List OE) : SameTo L M 0 := fun _ h => by omega
theorem SameTo.next {L M : List OE} {k : Nat} (h : SameTo L M k) {a b : OE} (ha : L[k]? = some a) (hb : M[k]? = some b) (hs : sameB a.o b.o = true) : SameTo L M (k + 1) := fun j hj x y hx hy => by
  by_cases hjk : j < k
  · exact h j hjk x y hx hy
  · obtain rfl : j = k := by omega
    rw [ha] at hx; rw [hb] at hy
    injection hx with hx; injection hy with hy
    subst hx; subst hy; exact hs
theorem SameTo.all {L M : List OE} (h : SameTo L M L.length) (hl : L.length = M.length) : sameObs (L.map (·.o)) (M.map (·.o)) = true := by
  refine sameObs_all _ _ (by rw [List.length_map, List.length_map]; exact hl) fun k a b h1 h2 => ?_
  rw [List.getElem?_map] at h1 h2
  obtain ⟨x, hx, rfl⟩ := Option.map_eq_some_iff.1 h1
  obtain ⟨y, hy, rfl⟩ := Option.map_eq_some_iff.1 h2
  exact h k (List.getElem?_eq_some_iff.1 hx).1 x y hx hy
set_option maxRecDepth 100000 in
set_option maxHeartbeats 1000000 in
theorem eqf_len (L M : List OE) (A B : Option Addr) (c d : Nat) (hL : L.length ≤ 1000000) (hM : M.length ≤ 1000000) (h : ¬ L.length = M.length) (w : World) :
    Calls Try.prog 62 #[.slice A L.length c, .slice B M.length d, .func (.func 49) #[] #[]] w fun y w' => y = .returned (.bool (sameObs (L.map (·.o)) (M.map (·.o)))) ∧ Below w.heap.size w w' := by
  have HS := Lib.hid (ne_len L M h)
  have hne : ((L.length : Int) != (M.length : Int)) = true := by simp; omega
  clear h
  go_enter Try.func62, Try.ntmps62
  go_wp2
  go_ret
  exact ⟨by rw [HS.out]; rfl, Below.refl _ _⟩
set_option maxRecDepth 100000 in
set_option maxHeartbeats 8000000 in
theorem eqf_eq (L M : List OE) (A B : Option Addr) (c d : Nat) (hL : L.length ≤ 1000000) (hl : L.length = M.length) (hz : ∀ e ∈ L, e.o.fins.length ≤ 1000000 ∧ e.o.labels.length ≤ 1000000 ∧ e.o.cidrs.length ≤ 1000000 ∧ e.o.fams.length ≤ 1000000 ∧ e.o.ips.length ≤ 1000000) (w : World) (hr : ObsR w A L) (hq : ObsR w B M) :
    Calls Try.prog 62 #[.slice A L.length c, .slice B M.length d, .func (.func 49) #[] #[]] w fun y w' => y = .returned (.bool (sameObs (L.map (·.o)) (M.map (·.o)))) ∧ Below w.heap.size w w' := by
  have HR := Lib.hid hr
  have HQ := Lib.hid hq
  have HZ := Lib.hid hz
  have HL := Lib.hid hl
  have hne : ((L.length : Int) != (M.length : Int)) = false := by simp; omega
  have hml : (M.length : Int) ≤ 1000000 := by omega
  clear hr hq hz hl
  go_enter Try.func62, Try.ntmps62
  go_wp2
  clear hne
  go_loopw [17] (fun i wr => ∃ k : Nat, k ≤ L.length ∧ i = .int .i64 k ∧ Hid (SameTo L M k ∧ Below w.heap.size w wr)) (fun i _ => L.length - (intOf i).toNat)
  case atStart => exact ⟨0, Nat.zero_le _, rfl, Lib.hid ⟨SameTo.zero _ _, Below.refl _ _⟩⟩
  case round =>
    obtain ⟨k, hk, rfl, H⟩ := hrel
    by_cases hkn : k < L.length
    · obtain ⟨e, he⟩ : ∃ e, L[k]? = some e := ⟨_, List.getElem?_eq_getElem hkn⟩
      obtain ⟨e2, he2⟩ : ∃ e2, M[k]? = some e2 := ⟨_, List.getElem?_eq_getElem (by have := HL.out; omega)⟩
      obtain ⟨b, p, hA, hrg, hrows⟩ := (HR.out.below H.out.2).at he
      obtain ⟨b2, p2, hA2, hrg2, hrows2⟩ := (HQ.out.below H.out.2).at he2
      subst hA
      subst hA2
      have hkm : k < M.length := by have := HL.out; omega
      have HE := Lib.hid he
      have HE2 := Lib.hid he2
      have HZE := Lib.hid (HZ.out e (List.mem_of_getElem? he))
      have b5 := bel_allocRow wr #[.int .i64 0, .string ⟨#[]⟩, .int .i64 0, .int .i64 0, .bool false, .slice none 0 0, .slice none 0 0, .slice none 0 0, .string ⟨#[]⟩, .int .i64 0, .int .i64 0, .slice none 0 0, .slice none 0 0, .string ⟨#[]⟩, .string ⟨#[]⟩, .int .i64 0, .string ⟨#[]⟩, .string ⟨#[]⟩, .string ⟨#[]⟩] (oc e.o e.f e.l e.c e.p e.i) 32
      obtain ⟨v5, hv5⟩ : ∃ z, z = (wr.alloc (.cells #[.int .i64 0, .string ⟨#[]⟩, .int .i64 0, .int .i64 0, .bool false, .slice none 0 0, .slice none 0 0, .slice none 0 0, .string ⟨#[]⟩, .int .i64 0, .int .i64 0, .slice none 0 0, .slice none 0 0, .string ⟨#[]⟩, .string ⟨#[]⟩, .int .i64 0, .string ⟨#[]⟩, .string ⟨#[]⟩, .string ⟨#[]⟩] 32)).setRow wr.heap.size (oc e.o e.f e.l e.c e.p e.i) := ⟨_, rfl⟩
      rw [← hv5] at b5
      obtain ⟨tb, htb⟩ : ∃ z, z = wr.heap.size := ⟨_, rfl⟩
      have p5 : v5.heap[tb]? = some (.cells (oc e.o e.f e.l e.c e.p e.i) 32 (0, 0)) := by rw [hv5, htb]; exact setRow_heap _ _ _ _ _ _ (G.heap_new _ _)
      have b6 := bel_allocRow v5 #[.int .i64 0, .string ⟨#[]⟩, .int .i64 0, .int .i64 0, .bool false, .slice none 0 0, .slice none 0 0, .slice none 0 0, .string ⟨#[]⟩, .int .i64 0, .int .i64 0, .slice none 0 0, .slice none 0 0, .string ⟨#[]⟩, .string ⟨#[]⟩, .int .i64 0, .string ⟨#[]⟩, .string ⟨#[]⟩, .string ⟨#[]⟩] (oc e2.o e2.f e2.l e2.c e2.p e2.i) 32
      obtain ⟨v6, hv6⟩ : ∃ z, z = (v5.alloc (.cells #[.int .i64 0, .string ⟨#[]⟩, .int .i64 0, .int .i64 0, .bool false, .slice none 0 0, .slice none 0 0, .slice none 0 0, .string ⟨#[]⟩, .int .i64 0, .int .i64 0, .slice none 0 0, .slice none 0 0, .string ⟨#[]⟩, .string ⟨#[]⟩, .int .i64 0, .string ⟨#[]⟩, .string ⟨#[]⟩, .string ⟨#[]⟩] 32)).setRow v5.heap.size (oc e2.o e2.f e2.l e2.c e2.p e2.i) := ⟨_, rfl⟩
      rw [← hv6] at b6
      obtain ⟨ub, hub⟩ : ∃ z, z = v5.heap.size := ⟨_, rfl⟩
      have p6 : v6.heap[ub]? = some (.cells (oc e2.o e2.f e2.l e2.c e2.p e2.i) 32 (0, 0)) := by rw [hv6, hub]; exact setRow_heap _ _ _ _ _ _ (G.heap_new _ _)
      have p56 : v6.heap[tb]? = some (.cells (oc e.o e.f e.l e.c e.p e.i) 32 (0, 0)) := (b6.block tb (Array.getElem?_eq_some_iff.1 p5).1).trans p5
      have C1 := Lib.hid (same_any e.o e2.o e.f e.l e.c e.p e.i e2.f e2.l e2.c e2.p e2.i HZE.out v6 ((hrows.below b5).below b6) ((hrows2.below b5).below b6))
      have RG := Lib.hid hrg
      have RG2 := Lib.hid (range_below hrg2 b5)
      have HV5 := Lib.hid hv5
      have HV6 := Lib.hid hv6
      have HTB := Lib.hid htb
      have HUB := Lib.hid hub
      have P56 := Lib.hid p56
      have P6 := Lib.hid p6
      have B6 := Lib.hid (H.out.2.trans (belowLe H.out.2.size (G.bthen b5 b6)))
      clear he he2 hrg hrg2 hrows hrows2 b5 hv5 htb p5 b6 hv6 hub p6 p56
      go_upto_region 5 with (fail)
      repeat (first | ((refine wpList_load_elem rfl (.tmp 20) rfl b (p + k * 19) rfl e RG.out ?_); (try simp only [Act.put, s1, s2, s3])) | ((refine wpList_store_row rfl 32 (.tmp 8) (.tmp 21) rfl _ (oc e.o e.f e.l e.c e.p e.i) rfl rfl 32 _ (G.heap_new _ _) size32 rfl (oc_one e.o e.f e.l e.c e.p e.i) ?_); rw [← HV5.out, ← HTB.out]) | ((refine wpList_load_elem rfl (.tmp 24) rfl b2 (p2 + k * 19) rfl e2 RG2.out ?_); (try simp only [Act.put, s1, s2, s3])) | ((refine wpList_store_row rfl 32 (.tmp 9) (.tmp 25) rfl _ (oc e2.o e2.f e2.l e2.c e2.p e2.i) rfl rfl 32 _ (G.heap_new _ _) size32 rfl (oc_one e2.o e2.f e2.l e2.c e2.p e2.i) ?_); rw [← HV6.out, ← HUB.out]) | ((refine wpList_load_row rfl 32 (.tmp 8) rfl tb rfl 32 _ (0, 0) _ P56.out Try.underlying32 rfl size32 ?_); (try simp only [Act.put, s1, s2, s3])) | ((refine wpList_load_row rfl 32 (.tmp 9) rfl ub rfl 32 _ (0, 0) _ P6.out Try.underlying32 rfl size32 ?_); (try simp only [Act.put, s1, s2, s3])) | go_values | go_skip | go_guarded | go_step)
      go_wp2_with (fail)
      refine C1.out.mono ?_
      cases hs : sameB e.o e2.o
      · have HN := Lib.hid (sameObs_ne _ _ k e.o e2.o (map_at HE.out) (map_at HE2.out) hs)
        clear hs
        rintro y w7 ⟨rfl, hb7⟩
        go_wp2
        go_ret
        exact ⟨by rw [HN.out]; rfl, B6.out.trans (belowLe B6.out.size hb7)⟩
      · have HN := Lib.hid (H.out.1.next HE.out HE2.out hs)
        clear hs
        rintro y w7 ⟨rfl, hb7⟩
        have B7 := Lib.hid (B6.out.trans (belowLe B6.out.size hb7))
        clear hb7
        go_wp2
        go_roundw
        case rel => exact ⟨k + 1, by omega, by go_num, Lib.hid ⟨HN.out, B7.out⟩⟩
        case measure => simp [intOf]; omega
    · obtain rfl : k = L.length := by omega
      have HN := Lib.hid (H.out.1.all HL.out)
      have B2 := Lib.hid H.out.2
      clear hkn hk H
      go_wp2
      go_ret
      exact ⟨by rw [HN.out]; rfl, B2.out⟩
theorem eqf_any (L M : List OE) (A B : Option Addr) (c d : Nat) (hL : L.length ≤ 1000000) (hM : M.length ≤ 1000000) (hz : ∀ e ∈ L, e.o.fins.length ≤ 1000000 ∧ e.o.labels.length ≤ 1000000 ∧ e.o.cidrs.length ≤ 1000000 ∧ e.o.fams.length ≤ 1000000 ∧ e.o.ips.length ≤ 1000000) (w : World) (hr : ObsR w A L) (hq : ObsR w B M) :
    Calls Try.prog 62 #[.slice A L.length c, .slice B M.length d, .func (.func 49) #[] #[]] w fun y w' => y = .returned (.bool (sameObs (L.map (·.o)) (M.map (·.o)))) ∧ Below w.heap.size w w' := by
  by_cases h : L.length = M.length
  · exact eqf_eq L M A B c d hL h hz w hr hq
  · exact eqf_len L M A B c d hL hM h w
set_option maxRecDepth 100000 in
set_option maxHeartbeats 1000000 in
theorem so_len (L M : List OE) (A B : Option Addr) (c d : Nat) (hL : L.length ≤ 1000000) (hM : M.length ≤ 1000000) (h : ¬ L.length = M.length) (w : World) :
    Calls Try.prog 63 #[.slice A L.length c, .slice B M.length d] w fun y w' => y = .returned (.bool (sameObs (L.map (·.o)) (M.map (·.o)))) ∧ Below w.heap.size w w' := by
  have HS := Lib.hid (ne_len L M h)
  have hne : ((L.length : Int) != (M.length : Int)) = true := by simp; omega
  clear h
  go_enter Try.func63, Try.ntmps63
  go_wp2
  go_ret
  exact ⟨by rw [HS.out]; rfl, Below.refl _ _⟩
set_option maxRecDepth 100000 in
set_option maxHeartbeats 8000000 in
theorem so_eq (L M : List OE) (A B : Option Addr) (c d : Nat) (hL : L.length ≤ 1000000) (hl : L.length = M.length) (hz : ∀ e ∈ L, e.o.fins.length ≤ 1000000 ∧ e.o.labels.length ≤ 1000000 ∧ e.o.cidrs.length ≤ 1000000 ∧ e.o.fams.length ≤ 1000000 ∧ e.o.ips.length ≤ 1000000) (w : World) (hr : ObsR w A L) (hq : ObsR w B M) :
    Calls Try.prog 63 #[.slice A L.length c, .slice B M.length d] w fun y w' => y = .returned (.bool (sameObs (L.map (·.o)) (M.map (·.o)))) ∧ Below w.heap.size w w' := by
  have HR := Lib.hid hr
  have HQ := Lib.hid hq
  have HZ := Lib.hid hz
  have HL := Lib.hid hl
  have hne : ((L.length : Int) != (M.length : Int)) = false := by simp; omega
  have hml : (M.length : Int) ≤ 1000000 := by omega
  clear hr hq hz hl
  go_enter Try.func63, Try.ntmps63
  go_wp2
  clear hne
  go_loopw [5] (fun i wr => ∃ k : Nat, k ≤ L.length ∧ i = .int .i64 k ∧ Hid (SameTo L M k ∧ Below w.heap.size w wr)) (fun i _ => L.length - (intOf i).toNat)
  case atStart => exact ⟨0, Nat.zero_le _, rfl, Lib.hid ⟨SameTo.zero _ _, Below.refl _ _⟩⟩
  case round =>
    obtain ⟨k, hk, rfl, H⟩ := hrel
    by_cases hkn : k < L.length
    · obtain ⟨e, he⟩ : ∃ e, L[k]? = some e := ⟨_, List.getElem?_eq_getElem hkn⟩
      obtain ⟨e2, he2⟩ : ∃ e2, M[k]? = some e2 := ⟨_, List.getElem?_eq_getElem (by have := HL.out; omega)⟩
      obtain ⟨b, p, hA, hrg, hrows⟩ := (HR.out.below H.out.2).at he
      obtain ⟨b2, p2, hA2, hrg2, hrows2⟩ := (HQ.out.below H.out.2).at he2
      subst hA
      subst hA2
      have hkm : (k : Int) < M.length := by have := HL.out; omega
      have hkl : (k : Int) < L.length := by omega
      have HE := Lib.hid he
      have HE2 := Lib.hid he2
      have HZE := Lib.hid (HZ.out e (List.mem_of_getElem? he))
      have RG := Lib.hid hrg
      have RG2 := Lib.hid hrg2
      have RW := Lib.hid hrows
      have RW2 := Lib.hid hrows2
      clear he he2 hrg hrg2 hrows hrows2
      go_upto_region 6 with (fail)
      refine wp_region_held_drew (S := fun V => Below wr.heap.size wr V) (by kernel_rfl) (G.bdrew (Below.refl _ _)) (fun hS0 => ?_)
      refine tk 0 17 (.slice (some ⟨b, p, none⟩) L.length c) ?_; (try simp only [s1, s2, s3]); refine tk 1 18 (.int .i64 (k : Nat)) ?_; (try simp only [s1, s2, s3]); refine tk 2 19 (.pointer (some ⟨b, p + k * 19, none⟩)) ?_; (try simp only [s1, s2, s3]); refine tk 3 20 (.agg (oc e.o e.f e.l e.c e.p e.i)) ?_ (hv := by exact load_mid_yields (.tmp 19) rfl b (p + k * 19) rfl e (fun V hV => range_below RG.out hV)); (try simp only [s1, s2, s3]); refine tk 4 21 (.slice (some ⟨b2, p2, none⟩) M.length d) ?_; (try simp only [s1, s2, s3]); refine tk 5 22 (.int .i64 (k : Nat)) ?_; (try simp only [s1, s2, s3]); refine tk 6 23 (.pointer (some ⟨b2, p2 + k * 19, none⟩)) ?_; (try simp only [s1, s2, s3]); refine tk 7 24 (.agg (oc e2.o e2.f e2.l e2.c e2.p e2.i)) ?_ (hv := by exact load_mid_yields (.tmp 23) rfl b2 (p2 + k * 19) rfl e2 (fun V hV => range_below RG2.out hV)); (try simp only [s1, s2, s3])
      refine wpAnyH_ready (rs := [8]) (by kernel_rfl) (by simp) ?_
      refine AllReadyH.cons rfl (fun K hK => ?_) ?_
      · rw [if_pos (by rfl)]
        go_simp
        go_at_call 18
        refine (same14_any e.o e2.o e.f e.l e.c e.p e.i e2.f e2.l e2.c e2.p e2.i HZE.out _ (RW.out.below hS0) (RW2.out.below hS0)).mono ?_
        cases hs : sameB e.o e2.o
        · have HN := Lib.hid (sameObs_ne _ _ k e.o e2.o (map_at HE.out) (map_at HE2.out) hs)
          clear hs
          rintro y w8 ⟨rfl, hb8⟩
          dsimp only
          refine hK.out _ _ (G.bthen hS0 hb8) (fun hHeld => ?_)
          clear hK K; try simp only [Act.put, s1, s2, s3]
          refine tk 9 26 (.bool true) ?_; (try simp only [s1, s2, s3])
          refine wpAnyH_done (by kernel_rfl) ?_ _
          have B8 := Lib.hid (H.out.2.trans (belowLe H.out.2.size hHeld))
          clear hHeld hb8 hS0
          go_wp2
          go_ret
          exact ⟨by rw [HN.out]; rfl, B8.out⟩
        · have HN := Lib.hid (H.out.1.next HE.out HE2.out hs)
          clear hs
          rintro y w8 ⟨rfl, hb8⟩
          dsimp only
          refine hK.out _ _ (G.bthen hS0 hb8) (fun hHeld => ?_)
          clear hK K; try simp only [Act.put, s1, s2, s3]
          refine tk 9 26 (.bool false) ?_; (try simp only [s1, s2, s3])
          refine wpAnyH_done (by kernel_rfl) ?_ _
          have B8 := Lib.hid (H.out.2.trans (belowLe H.out.2.size hHeld))
          clear hHeld hb8 hS0
          go_wp2
          go_roundw
          case rel => exact ⟨k + 1, by omega, by go_num, Lib.hid ⟨HN.out, B8.out⟩⟩
          case measure => simp [intOf]; omega
      exact AllReadyH.nil
    · obtain rfl : k = L.length := by omega
      have HN := Lib.hid (H.out.1.all HL.out)
      have B2 := Lib.hid H.out.2
      have hkm : decide (L.length < L.length) = false := by simp
      clear hkn hk H
      go_wp2
      go_ret
      exact ⟨by rw [HN.out]; rfl, B2.out⟩
theorem so_any (L M : List OE) (A B : Option Addr) (c d : Nat) (hL : L.length ≤ 1000000) (hM : M.length ≤ 1000000) (hz : ∀ e ∈ L, e.o.fins.length ≤ 1000000 ∧ e.o.labels.length ≤ 1000000 ∧ e.o.cidrs.length ≤ 1000000 ∧ e.o.fams.length ≤ 1000000 ∧ e.o.ips.length ≤ 1000000) (w : World) (hr : ObsR w A L) (hq : ObsR w B M) :
    Calls Try.prog 63 #[.slice A L.length c, .slice B M.length d] w fun y w' => y = .returned (.bool (sameObs (L.map (·.o)) (M.map (·.o)))) ∧ Below w.heap.size w w' := by
  by_cases h : L.length = M.length
  · exact so_eq L M A B c d hL h hz w hr hq
  · exact so_len L M A B c d hL hM h w
end Go.Proofs.Ytolndeolehkjoaa
