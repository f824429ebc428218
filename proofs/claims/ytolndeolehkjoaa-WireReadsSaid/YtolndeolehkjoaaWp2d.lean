/- Responses: the objects: all have a shape, two lists are alike. -/
import Derived.Test.YtolndeolehkjoaaWs0c
namespace Go.Proofs.Ytolndeolehkjoaa
set_option linter.unusedVariables false
set_option linter.unusedSimpArgs false
open Go.RowKit CodP
def sameObs : List Ob → List Ob → Bool
  | [], [] => true
  | a :: l, b :: m => sameB a b && sameObs l m
  | [], _ :: _ => false
  | _ :: _, [] => false
theorem sameObs_self : ∀ l : List Ob, sameObs l l = true
  | [] => rfl
  | a :: l => by simp only [sameObs, sameB_self, sameObs_self l, Bool.and_self]
theorem sameObs_len : ∀ l m : List Ob, l.length ≠ m.length → sameObs l m = false
  | [], [], h => absurd rfl h
  | a :: l, b :: m, h => by
    simp only [sameObs]
    rw [sameObs_len l m (fun e => h (by simp [e])), Bool.and_false]
  | [], _ :: _, _ => rfl
  | _ :: _, [], _ => rfl
theorem sameObs_ne : ∀ (l m : List Ob) (k : Nat) (a b : Ob), l[k]? = some a → m[k]? = some b → sameB a b = false → sameObs l m = false
  | [], _, _, _, _, h, _, _ => by simp at h
  | _ :: _, [], _, _, _, _, _, _ => rfl
  | x :: l, y :: m, 0, a, b, h1, h2, h3 => by
    simp at h1 h2
    subst h1; subst h2
    simp only [sameObs, h3, Bool.false_and]
  | x :: l, y :: m, k + 1, a, b, h1, h2, h3 => by
    simp only [List.getElem?_cons_succ] at h1 h2
    simp only [sameObs, sameObs_ne l m k a b h1 h2 h3, Bool.and_false]
theorem sameObs_all : ∀ (l m : List Ob), l.length = m.length → (∀ (k : Nat) (a b : Ob), l[k]? = some a → m[k]? = some b → sameB a b = true) → sameObs l m = true
  | [], [], _, _ => rfl
  | [], _ :: _, h, _ => by simp at h
  | _ :: _, [], h, _ => by simp at h
  | x :: l, y :: m, h, g => by
    simp only [sameObs]
    rw [g 0 x y rfl rfl, sameObs_all l m (by simpa using h) fun k a b h1 h2 => g (k + 1) a b (by simpa using h1) (by simpa using h2)]
    rfl
def nshape (e : OE) : Bool := !CodP.shape e.o
theorem box32 (w : World) (cs : Array Value) : ∃ w1, w1 = w.alloc (.cells cs 32) ∧ Below w.heap.size w w1 ∧ w1.heap[w.heap.size]? = some (.cells cs 32 (0, 0)) := ⟨_, rfl, bel_alloc _ _, G.heap_new _ _⟩
set_option maxRecDepth 100000 in
set_option maxHeartbeats 4000000 in
theorem nshape_any (e : OE) (hs : e.o.fins.length ≤ 1000000 ∧ e.o.labels.length ≤ 1000000 ∧ e.o.cidrs.length ≤ 1000000 ∧ e.o.fams.length ≤ 1000000 ∧ e.o.ips.length ≤ 1000000) (w : World) (hr : RowsR w e.o e.f e.l e.c e.p e.i) :
    Calls Try.prog 61 #[.agg (oc e.o e.f e.l e.c e.p e.i)] w fun y w' => y = .returned (.bool (nshape e)) ∧ Below w.heap.size w w' := by
  obtain ⟨w1, hw1, b1, p1⟩ := box32 w (oc e.o e.f e.l e.c e.p e.i)
  obtain ⟨x, hx⟩ : ∃ x, x = w.heap.size := ⟨_, rfl⟩
  rw [← hx] at p1
  have C1 := Lib.hid (shape_any e.o e.f e.l e.c e.p e.i hs w1 (hr.below b1))
  have HW := Lib.hid hw1
  have B1 := Lib.hid b1
  have P1 := Lib.hid p1
  clear b1 p1 hw1 hr hs
  go_enter Try.func61, Try.ntmps61
  go_upto_region 1 with (fail)
  rw [← HW.out, ← hx]
  clear hx
  go_wp2_with (refine wpList_load_row rfl 32 (.tmp 1) rfl x rfl 32 _ (0, 0) _ P1.out Try.underlying32 rfl size32 ?_)
  refine C1.out.mono ?_
  rintro y w2 ⟨rfl, hb2⟩
  have B2 := Lib.hid (B1.out.trans (belowLe B1.out.size hb2))
  clear hb2
  go_wp2
  go_ret
  exact ⟨rfl, B2.out⟩
set_option maxRecDepth 100000 in
set_option maxHeartbeats 4000000 in
theorem idxO_any (L : List OE) (A : Option Addr) (c : Nat) (hL : L.length ≤ 1000000) (hz : ∀ e ∈ L, e.o.fins.length ≤ 1000000 ∧ e.o.labels.length ≤ 1000000 ∧ e.o.cidrs.length ≤ 1000000 ∧ e.o.fams.length ≤ 1000000 ∧ e.o.ips.length ≤ 1000000) (w : World) (hr : ObsR w A L) :
    Calls Try.prog 93 #[.slice A L.length c, .func (.func 61) #[] #[]] w fun e w' => ∃ r : Int, e = .returned (.int .i64 r) ∧ decide (0 ≤ r) = L.any nshape ∧ Below w.heap.size w w' := by
  have HR := Lib.hid hr
  have HZ := Lib.hid hz
  clear hr hz
  go_enter Try.func93, Try.ntmps93
  go_wp2
  go_loopw [8] (fun i wr => ∃ k : Nat, k ≤ L.length ∧ i = .int .i64 k ∧ Hid ((L.take k).any nshape = false ∧ Below w.heap.size w wr)) (fun i _ => L.length - (intOf i).toNat)
  case atStart => exact ⟨0, Nat.zero_le _, rfl, Lib.hid ⟨by simp, Below.refl _ _⟩⟩
  case round =>
    obtain ⟨k, hk, rfl, H⟩ := hrel
    by_cases hkn : k < L.length
    · obtain ⟨e, he⟩ : ∃ e, L[k]? = some e := ⟨_, List.getElem?_eq_getElem hkn⟩
      obtain ⟨b, p, hA, hrg, hrows⟩ := (HR.out.below H.out.2).at he
      subst hA
      have HE := Lib.hid he
      have HRG := Lib.hid hrg
      have C1 := Lib.hid (nshape_any e (HZ.out e (List.mem_of_getElem? he)) wr hrows)
      clear he hrg hrows
      go_upto_region 4 with (fail)
      repeat (first | ((refine wpList_load_elem rfl (.tmp 14) rfl b (p + k * 19) rfl e HRG.out ?_); (try simp only [Act.put, s1, s2, s3])) | go_values | go_skip | go_guarded | go_step)
      go_wp2_with (fail)
      refine C1.out.mono ?_
      cases hl : nshape e
      · have hn := any_take nshape H.out.1 HE.out hl
        have HN := Lib.hid hn
        clear hl hn
        rintro y w1 ⟨rfl, hb⟩
        have HB := Lib.hid (G.bthen' H.out.2 H.out.2.size hb)
        clear hb
        go_wp2
        go_roundw
        case rel => exact ⟨k + 1, by omega, by go_num, Lib.hid ⟨HN.out, HB.out⟩⟩
        case measure => simp [intOf]; omega
      · have hn := any_hit nshape HE.out hl
        have HN := Lib.hid hn
        clear hl hn
        rintro y w1 ⟨rfl, hb⟩
        have HB := Lib.hid (G.bthen' H.out.2 H.out.2.size hb)
        clear hb
        go_wp2
        go_ret
        exact ⟨k, rfl, by rw [HN.out]; exact decide_eq_true (by omega), HB.out⟩
    · obtain rfl : k = L.length := by omega
      have hn : L.any nshape = false := by have := H.out.1; rwa [List.take_length] at this
      have HN := Lib.hid hn
      clear hn
      go_wp2
      go_ret
      exact ⟨-1, rfl, by rw [HN.out]; rfl, H.out.2⟩
set_option maxRecDepth 100000 in
set_option maxHeartbeats 1000000 in
theorem hasO_any (L : List OE) (A : Option Addr) (c : Nat) (hL : L.length ≤ 1000000) (hz : ∀ e ∈ L, e.o.fins.length ≤ 1000000 ∧ e.o.labels.length ≤ 1000000 ∧ e.o.cidrs.length ≤ 1000000 ∧ e.o.fams.length ≤ 1000000 ∧ e.o.ips.length ≤ 1000000) (w : World) (hr : ObsR w A L) :
    Calls Try.prog 60 #[.slice A L.length c, .func (.func 61) #[] #[]] w fun e w' => e = .returned (.bool (L.any nshape)) ∧ Below w.heap.size w w' := by
  have hc := idxO_any L A c hL hz w hr
  have HC := Lib.hid hc
  clear hc hr hz
  go_enter Try.func60, Try.ntmps60
  go_wp2_with (fail)
  refine HC.out.mono ?_
  rintro e w1 ⟨r, rfl, hd, hb⟩
  have HD := Lib.hid hd
  have HB := Lib.hid hb
  clear hd hb
  go_wp2
  go_ret
  exact ⟨by rw [← HD.out]; rfl, HB.out⟩
theorem ne_len (L M : List OE) (h : ¬ L.length = M.length) : sameObs (L.map (·.o)) (M.map (·.o)) = false := sameObs_len _ _ (by rw [List.length_map, List.length_map]; exact h)
theorem map_at {L : List OE} {k : Nat} {e : OE} (h : L[k]? = some e) : (L.map (·.o))[k]? = some e.o := by rw [List.getElem?_map, h]; rfl
def SameTo (L M : List OE) (k : Nat) : Prop := ∀ j, j < k → ∀ a b, L[j]? = some a → M[j]? = some b → sameB a.o b.o = true
theorem SameTo.zero (L M : List OE) : SameTo L M 0 := fun _ h => by omega
theorem SameTo.next {L M : List OE} {k : Nat} (h : SameTo L M k) {a b : OE} (ha : L[k]? = some a) (hb : M[k]? = some b) (hs : sameB a.o b.o = true) : SameTo L M (k + 1) := fun j hj x y hx hy => by
  by_cases hjk : j < k
  · exact h j hjk x y hx hy
  · obtain rfl : j = k := by omega
    rw [ha] at hx; rw [hb] at hy
    injection hx with hx; injection hy with hy
    subst hx; subst hy; exact hs
theorem SameTo.all {L M : List OE} (h : SameTo L M L.length) (hl : L.length = M.length) : sameObs (L.map (·.o)) (M.map (·.o)) = true := by
  refine sameObs_all _ _ (by rw [List.length_map, List.length_map]; exact hl) fun k a b h1 h2 => ?_
  rw [List.getElem?_map] at h1 h2
  obtain ⟨x, hx, rfl⟩ := Option.map_eq_some_iff.1 h1
  obtain ⟨y, hy, rfl⟩ := Option.map_eq_some_iff.1 h2
  exact h k (List.getElem?_eq_some_iff.1 hx).1 x y hx hy
set_option maxRecDepth 100000 in
set_option maxHeartbeats 1000000 in
theorem so_len (L M : List OE) (A B : Option Addr) (c d : Nat) (hL : L.length ≤ 1000000) (hM : M.length ≤ 1000000) (h : ¬ L.length = M.length) (w : World) :
    Calls Try.prog 63 #[.slice A L.length c, .slice B M.length d] w fun y w' => y = .returned (.bool (sameObs (L.map (·.o)) (M.map (·.o)))) ∧ Below w.heap.size w w' := by
  have HS := Lib.hid (ne_len L M h)
  have hne : ((L.length : Int) != (M.length : Int)) = true := by simp; omega
  clear h
  go_enter Try.func63, Try.ntmps63
  go_wp2
  go_ret
  exact ⟨by rw [HS.out]; rfl, Below.refl _ _⟩
set_option maxRecDepth 100000 in
set_option maxHeartbeats 8000000 in
theorem so_eq (L M : List OE) (A B : Option Addr) (c d : Nat) (hL : L.length ≤ 1000000) (hl : L.length = M.length) (hz : ∀ e ∈ L, e.o.fins.length ≤ 1000000 ∧ e.o.labels.length ≤ 1000000 ∧ e.o.cidrs.length ≤ 1000000 ∧ e.o.fams.length ≤ 1000000 ∧ e.o.ips.length ≤ 1000000) (w : World) (hr : ObsR w A L) (hq : ObsR w B M) :
    Calls Try.prog 63 #[.slice A L.length c, .slice B M.length d] w fun y w' => y = .returned (.bool (sameObs (L.map (·.o)) (M.map (·.o)))) ∧ Below w.heap.size w w' := by
  have HR := Lib.hid hr
  have HQ := Lib.hid hq
  have HZ := Lib.hid hz
  have HL := Lib.hid hl
  have hne : ((L.length : Int) != (M.length : Int)) = false := by simp; omega
  have hml : (M.length : Int) ≤ 1000000 := by omega
  clear hr hq hz hl
  go_enter Try.func63, Try.ntmps63
  go_wp2
  clear hne
  go_loopw [5] (fun i wr => ∃ k : Nat, k ≤ L.length ∧ i = .int .i64 k ∧ Hid (SameTo L M k ∧ Below w.heap.size w wr)) (fun i _ => L.length - (intOf i).toNat)
  case atStart => exact ⟨0, Nat.zero_le _, rfl, Lib.hid ⟨SameTo.zero _ _, Below.refl _ _⟩⟩
  case round =>
    obtain ⟨k, hk, rfl, H⟩ := hrel
    by_cases hkn : k < L.length
    · obtain ⟨e, he⟩ : ∃ e, L[k]? = some e := ⟨_, List.getElem?_eq_getElem hkn⟩
      obtain ⟨e2, he2⟩ : ∃ e2, M[k]? = some e2 := ⟨_, List.getElem?_eq_getElem (by have := HL.out; omega)⟩
      obtain ⟨b, p, hA, hrg, hrows⟩ := (HR.out.below H.out.2).at he
      obtain ⟨b2, p2, hA2, hrg2, hrows2⟩ := (HQ.out.below H.out.2).at he2
      subst hA
      subst hA2
      have hkm : (k : Int) < M.length := by have := HL.out; omega
      have hkl : (k : Int) < L.length := by omega
      have HE := Lib.hid he
      have HE2 := Lib.hid he2
      have HZE := Lib.hid (HZ.out e (List.mem_of_getElem? he))
      have RG := Lib.hid hrg
      have RG2 := Lib.hid hrg2
      have RW := Lib.hid hrows
      have RW2 := Lib.hid hrows2
      clear he he2 hrg hrg2 hrows hrows2
      go_upto_region 6 with (fail)
      refine wp_region_held_drew (S := fun V => Below wr.heap.size wr V) (by kernel_rfl) (G.bdrew (Below.refl _ _)) (fun hS0 => ?_)
      refine tk 0 17 (.slice (some ⟨b, p, none⟩) L.length c) ?_; (try simp only [s1, s2, s3]); refine tk 1 18 (.int .i64 (k : Nat)) ?_; (try simp only [s1, s2, s3]); refine tk 2 19 (.pointer (some ⟨b, p + k * 19, none⟩)) ?_; (try simp only [s1, s2, s3]); refine tk 3 20 (.agg (oc e.o e.f e.l e.c e.p e.i)) ?_ (hv := by exact load_mid_yields (.tmp 19) rfl b (p + k * 19) rfl e (fun V hV => range_below RG.out hV)); (try simp only [s1, s2, s3]); refine tk 4 21 (.slice (some ⟨b2, p2, none⟩) M.length d) ?_; (try simp only [s1, s2, s3]); refine tk 5 22 (.int .i64 (k : Nat)) ?_; (try simp only [s1, s2, s3]); refine tk 6 23 (.pointer (some ⟨b2, p2 + k * 19, none⟩)) ?_; (try simp only [s1, s2, s3]); refine tk 7 24 (.agg (oc e2.o e2.f e2.l e2.c e2.p e2.i)) ?_ (hv := by exact load_mid_yields (.tmp 23) rfl b2 (p2 + k * 19) rfl e2 (fun V hV => range_below RG2.out hV)); (try simp only [s1, s2, s3])
      refine wpAnyH_ready (rs := [8]) (by kernel_rfl) (by simp) ?_
      refine AllReadyH.cons rfl (fun K hK => ?_) ?_
      · rw [if_pos (by rfl)]
        go_simp
        go_at_call 18
        refine (same14_any e.o e2.o e.f e.l e.c e.p e.i e2.f e2.l e2.c e2.p e2.i HZE.out _ (RW.out.below hS0) (RW2.out.below hS0)).mono ?_
        cases hs : sameB e.o e2.o
        · have HN := Lib.hid (sameObs_ne _ _ k e.o e2.o (map_at HE.out) (map_at HE2.out) hs)
          clear hs
          rintro y w8 ⟨rfl, hb8⟩
          dsimp only
          refine hK.out _ _ (G.bthen hS0 hb8) (fun hHeld => ?_)
          clear hK K; try simp only [Act.put, s1, s2, s3]
          refine tk 9 26 (.bool true) ?_; (try simp only [s1, s2, s3])
          refine wpAnyH_done (by kernel_rfl) ?_ _
          have B8 := Lib.hid (H.out.2.trans (belowLe H.out.2.size hHeld))
          clear hHeld hb8 hS0
          go_wp2
          go_ret
          exact ⟨by rw [HN.out]; rfl, B8.out⟩
        · have HN := Lib.hid (H.out.1.next HE.out HE2.out hs)
          clear hs
          rintro y w8 ⟨rfl, hb8⟩
          dsimp only
          refine hK.out _ _ (G.bthen hS0 hb8) (fun hHeld => ?_)
          clear hK K; try simp only [Act.put, s1, s2, s3]
          refine tk 9 26 (.bool false) ?_; (try simp only [s1, s2, s3])
          refine wpAnyH_done (by kernel_rfl) ?_ _
          have B8 := Lib.hid (H.out.2.trans (belowLe H.out.2.size hHeld))
          clear hHeld hb8 hS0
          go_wp2
          go_roundw
          case rel => exact ⟨k + 1, by omega, by go_num, Lib.hid ⟨HN.out, B8.out⟩⟩
          case measure => simp [intOf]; omega
      exact AllReadyH.nil
    · obtain rfl : k = L.length := by omega
      have HN := Lib.hid (H.out.1.all HL.out)
      have B2 := Lib.hid H.out.2
      have hkm : decide (L.length < L.length) = false := by simp
      clear hkn hk H
      go_wp2
      go_ret
      exact ⟨by rw [HN.out]; rfl, B2.out⟩
theorem so_any (L M : List OE) (A B : Option Addr) (c d : Nat) (hL : L.length ≤ 1000000) (hM : M.length ≤ 1000000) (hz : ∀ e ∈ L, e.o.fins.length ≤ 1000000 ∧ e.o.labels.length ≤ 1000000 ∧ e.o.cidrs.length ≤ 1000000 ∧ e.o.fams.length ≤ 1000000 ∧ e.o.ips.length ≤ 1000000) (w : World) (hr : ObsR w A L) (hq : ObsR w B M) :
    Calls Try.prog 63 #[.slice A L.length c, .slice B M.length d] w fun y w' => y = .returned (.bool (sameObs (L.map (·.o)) (M.map (·.o)))) ∧ Below w.heap.size w w' := by
  by_cases h : L.length = M.length
  · exact so_eq L M A B c d hL h hz w hr hq
  · exact so_len L M A B c d hL hM h w
/-- a response -/
structure Rp where
  err : Int
  ver : Int
  l : List Ob
/-- a response in memory -/
structure RE where
  err : Int
  ver : Int
  L : List OE
  A : Option Addr
  c : Nat
def rc (r : RE) : Array Value := #[.int .i64 r.err, .int .i64 r.ver, .slice r.A r.L.length r.c]
def RE.p (r : RE) : Rp := ⟨r.err, r.ver, r.L.map (·.o)⟩
def RE.lens (r : RE) : Prop := r.L.length ≤ 1000000 ∧ ∀ e ∈ r.L, e.o.fins.length ≤ 1000000 ∧ e.o.labels.length ≤ 1000000 ∧ e.o.cidrs.length ≤ 1000000 ∧ e.o.fams.length ≤ 1000000 ∧ e.o.ips.length ≤ 1000000
theorem size60 : (Try.prog.info? 60).map (·.size) = some 3 := by kernel_rfl
def sameRp (a b : Rp) : Bool := decide (a.err = b.err) && (decide (a.ver = b.ver) && sameObs a.l b.l)
theorem sameRp_self (a : Rp) : sameRp a a = true := by simp [sameRp, sameObs_self]
def rightRp (p : Rp) : Bool := inR p.err 255 && (inR p.ver 1099511627776 && (p.l.all CodP.shape && (decide (p.l.length ≤ 200) && (decide (p.err = 0) || decide (p.l.length = 0)))))
theorem any_nshape (L : List OE) : L.any nshape = !((L.map (·.o)).all CodP.shape) := by
  induction L with
  | nil => rfl
  | cons e L ih =>
    rw [List.any_cons, List.map_cons, List.all_cons, ih, Bool.not_and]
    rfl
theorem nshape_true {L : List OE} (h : L.any nshape = false) : (L.map (·.o)).all CodP.shape = true := by
  rw [any_nshape] at h
  cases hx : (L.map (·.o)).all CodP.shape
  · rw [hx] at h; cases h
  · rfl
theorem nshape_false {L : List OE} (h : L.any nshape = true) : (L.map (·.o)).all CodP.shape = false := by
  rw [any_nshape] at h
  cases hx : (L.map (·.o)).all CodP.shape
  · rfl
  · rw [hx] at h; cases h
theorem box60 (w : World) (cs : Array Value) : ∃ w1, w1 = w.alloc (.cells cs 60) ∧ Below w.heap.size w w1 ∧ w1.heap[w.heap.size]? = some (.cells cs 60 (0, 0)) := ⟨_, rfl, bel_alloc _ _, G.heap_new _ _⟩
theorem two60 (w : World) (cs ds : Array Value) : ∃ w1, w1 = (w.alloc (.cells cs 60)).alloc (.cells ds 60) ∧ Below w.heap.size w w1 ∧ w1.heap[w.heap.size]? = some (.cells cs 60 (0, 0)) ∧ w1.heap[w.heap.size + 1]? = some (.cells ds 60 (0, 0)) := by
  refine ⟨_, rfl, G.bthen (bel_alloc _ _) (bel_alloc _ _), ((bel_alloc _ _).block _ (by simp)).trans (G.heap_new _ _), ?_⟩
  have h2 := G.heap_new (w.alloc (.cells cs 60)) (.cells ds 60)
  rw [show (w.alloc (.cells cs 60)).heap.size = w.heap.size + 1 by simp] at h2
  exact h2
theorem at0 {V : World} {x : Nat} {r : RE} (h : V.heap[x]? = some (.cells (rc r) 60 (0, 0))) : V.cell? ⟨x, 0, none⟩ = some (.int .i64 r.err) := by simp [World.cell?, h, rc]
theorem at1 {V : World} {x : Nat} {r : RE} (h : V.heap[x]? = some (.cells (rc r) 60 (0, 0))) : V.cell? ⟨x, 1, none⟩ = some (.int .i64 r.ver) := by simp [World.cell?, h, rc]
theorem at2 {V : World} {x : Nat} {r : RE} (h : V.heap[x]? = some (.cells (rc r) 60 (0, 0))) : V.cell? ⟨x, 2, none⟩ = some (.slice r.A r.L.length r.c) := by simp [World.cell?, h, rc]
set_option maxRecDepth 100000 in
set_option maxHeartbeats 4000000 in
theorem rsamerp_0 (a b : RE) (h : ¬ a.err = b.err) (w : World) :
    Calls Try.prog 37 #[.agg (rc a), .agg (rc b)] w fun y w' => y = .returned (.bool (sameRp a.p b.p)) ∧ Below w.heap.size w w' := by
  obtain ⟨w1, hw1, b1, p1, q1⟩ := two60 w (rc a) (rc b)
  obtain ⟨x, hx⟩ : ∃ x, x = w.heap.size := ⟨_, rfl⟩
  obtain ⟨y, hy⟩ : ∃ y, y = w.heap.size + 1 := ⟨_, rfl⟩
  rw [← hx] at p1
  rw [← hy] at q1
  have hS : sameRp a.p b.p = false := by unfold sameRp; rw [decide_eq_false (show ¬ a.p.err = b.p.err from h), Bool.false_and]
  have e0 : (a.err == b.err) = false := by simpa using h
  have cx0 := at0 p1
  have cy0 := at0 q1
  have HS := Lib.hid hS
  have HW := Lib.hid hw1
  have B1 := Lib.hid b1
  clear hS hw1 b1 p1 q1 h
  go_enter Try.func37, Try.ntmps37
  go_upto_region 1 with (fail)
  rw [← HW.out, ← hy, ← hx]
  clear hx hy
  go_wp2
  go_ret
  exact ⟨by rw [HS.out]; rfl, B1.out⟩
set_option maxRecDepth 100000 in
set_option maxHeartbeats 4000000 in
theorem rsamerp_1 (a b : RE) (h : a.err = b.err) (h2 : ¬ a.ver = b.ver) (w : World) :
    Calls Try.prog 37 #[.agg (rc a), .agg (rc b)] w fun y w' => y = .returned (.bool (sameRp a.p b.p)) ∧ Below w.heap.size w w' := by
  obtain ⟨w1, hw1, b1, p1, q1⟩ := two60 w (rc a) (rc b)
  obtain ⟨x, hx⟩ : ∃ x, x = w.heap.size := ⟨_, rfl⟩
  obtain ⟨y, hy⟩ : ∃ y, y = w.heap.size + 1 := ⟨_, rfl⟩
  rw [← hx] at p1
  rw [← hy] at q1
  have hS : sameRp a.p b.p = false := by unfold sameRp; rw [decide_eq_false (show ¬ a.p.ver = b.p.ver from h2), Bool.false_and, Bool.and_false]
  have e1 : (a.ver == b.ver) = false := by simpa using h2
  have cx0 := at0 p1
  rw [h] at cx0
  have cy0 := at0 q1
  have cx1 := at1 p1
  have cy1 := at1 q1
  have HS := Lib.hid hS
  have HW := Lib.hid hw1
  have B1 := Lib.hid b1
  clear hS hw1 b1 p1 q1 h h2
  go_enter Try.func37, Try.ntmps37
  go_upto_region 1 with (fail)
  rw [← HW.out, ← hy, ← hx]
  clear hx hy
  go_wp2
  go_ret
  exact ⟨by rw [HS.out]; rfl, B1.out⟩
set_option maxRecDepth 100000 in
set_option maxHeartbeats 4000000 in
theorem rsamerp_2 (a b : RE) (h : a.err = b.err) (h2 : a.ver = b.ver) (ha : a.lens) (hb : b.L.length ≤ 1000000) (w : World) (hr : ObsR w a.A a.L) (hq : ObsR w b.A b.L) :
    Calls Try.prog 37 #[.agg (rc a), .agg (rc b)] w fun y w' => y = .returned (.bool (sameRp a.p b.p)) ∧ Below w.heap.size w w' := by
  obtain ⟨w1, hw1, b1, p1, q1⟩ := two60 w (rc a) (rc b)
  obtain ⟨x, hx⟩ : ∃ x, x = w.heap.size := ⟨_, rfl⟩
  obtain ⟨y, hy⟩ : ∃ y, y = w.heap.size + 1 := ⟨_, rfl⟩
  rw [← hx] at p1
  rw [← hy] at q1
  have hS : sameRp a.p b.p = sameObs (a.L.map (·.o)) (b.L.map (·.o)) := by unfold sameRp; rw [decide_eq_true (show a.p.err = b.p.err from h), decide_eq_true (show a.p.ver = b.p.ver from h2)]; rfl
  have C1 := Lib.hid (so_any a.L b.L a.A b.A a.c b.c ha.1 hb ha.2 w1 (hr.below b1) (hq.below b1))
  rw [← hS] at C1
  obtain ⟨r, hr0⟩ : ∃ r, r = sameRp a.p b.p := ⟨_, rfl⟩
  rw [← hr0] at C1 ⊢
  have cx0 := at0 p1
  rw [h] at cx0
  have cy0 := at0 q1
  have cx1 := at1 p1
  rw [h2] at cx1
  have cy1 := at1 q1
  have cx2 := at2 p1
  have cy2 := at2 q1
  clear hr hq hr0
  have HS := Lib.hid hS
  have HW := Lib.hid hw1
  have B1 := Lib.hid b1
  clear hS hw1 b1 p1 q1 h h2 ha
  go_enter Try.func37, Try.ntmps37
  go_upto_region 1 with (fail)
  rw [← HW.out, ← hy, ← hx]
  clear hx hy
  go_wp2_with (go_at_call 63; refine C1.out.mono ?_; rintro e w2 ⟨rfl, hb2⟩)
  go_ret
  exact ⟨rfl, B1.out.trans (belowLe B1.out.size hb2)⟩
theorem rsamerp_any (a b : RE) (ha : a.lens) (hb : b.L.length ≤ 1000000) (w : World) (hr : ObsR w a.A a.L) (hq : ObsR w b.A b.L) :
    Calls Try.prog 37 #[.agg (rc a), .agg (rc b)] w fun y w' => y = .returned (.bool (sameRp a.p b.p)) ∧ Below w.heap.size w w' := by
  by_cases h : a.err = b.err
  · by_cases h2 : a.ver = b.ver
    · exact rsamerp_2 a b h h2 ha hb w hr hq
    · exact rsamerp_1 a b h h2 w
  · exact rsamerp_0 a b h w
set_option maxRecDepth 100000 in
set_option maxHeartbeats 4000000 in
theorem right34_0 (r : RE) (hl : r.lens) (h0 : ¬ 0 ≤ r.err) (w : World) (hr : ObsR w r.A r.L) :
    Calls Try.prog 34 #[.agg (rc r)] w fun y w' => y = .returned (.bool (rightRp r.p)) ∧ Below w.heap.size w w' := by
  obtain ⟨w1, hw1, b1, p1⟩ := box60 w (rc r)
  obtain ⟨x, hx⟩ : ∃ x, x = w.heap.size := ⟨_, rfl⟩
  rw [← hx] at p1
  have hS : rightRp r.p = false := by
    unfold rightRp; rw [(show inR r.p.err 255 = false from decide_eq_false (fun h => h0 h.1)), Bool.false_and]
  have C1 := Lib.hid (hasO_any r.L r.A r.c hl.1 hl.2 w1 (hr.below b1))
  obtain ⟨av, hav⟩ : ∃ av, av = r.L.any nshape := ⟨_, rfl⟩
  rw [← hav] at C1
  clear hav
  have d0 : decide (0 ≤ r.err) = false := decide_eq_false (by omega)
  have HS := Lib.hid hS
  have HW := Lib.hid hw1
  have B1 := Lib.hid b1
  have P1 := Lib.hid p1
  have hlz := hl.1
  have c2 := at2 p1
  clear hS hw1 b1 p1 hl hr h0
  go_enter Try.func34, Try.ntmps34
  go_upto_region 1 with (fail)
  rw [← HW.out, ← hx]
  clear hx
  go_upto_region 2 with (go_at_call 60; refine C1.out.mono ?_; rintro e w2 ⟨rfl, hb2⟩)
  have p2 := (hb2.block x (Array.getElem?_eq_some_iff.1 P1.out).1).trans P1.out
  have B2 := Lib.hid (B1.out.trans (belowLe B1.out.size hb2))
  clear c2
  have c0 := at0 p2
  have c1 := at1 p2
  have c2 := at2 p2
  clear hb2 p2
  go_wp2
  go_ret
  exact ⟨by rw [HS.out]; rfl, B2.out⟩
set_option maxRecDepth 100000 in
set_option maxHeartbeats 4000000 in
theorem right34_1 (r : RE) (hl : r.lens) (h0 : 0 ≤ r.err) (h1 : ¬ r.err ≤ 255) (w : World) (hr : ObsR w r.A r.L) :
    Calls Try.prog 34 #[.agg (rc r)] w fun y w' => y = .returned (.bool (rightRp r.p)) ∧ Below w.heap.size w w' := by
  obtain ⟨w1, hw1, b1, p1⟩ := box60 w (rc r)
  obtain ⟨x, hx⟩ : ∃ x, x = w.heap.size := ⟨_, rfl⟩
  rw [← hx] at p1
  have hS : rightRp r.p = false := by
    unfold rightRp; rw [(show inR r.p.err 255 = false from decide_eq_false (fun h => h1 h.2)), Bool.false_and]
  have C1 := Lib.hid (hasO_any r.L r.A r.c hl.1 hl.2 w1 (hr.below b1))
  obtain ⟨av, hav⟩ : ∃ av, av = r.L.any nshape := ⟨_, rfl⟩
  rw [← hav] at C1
  clear hav
  have d0 : decide (0 ≤ r.err) = true := decide_eq_true (by omega)
  have d1 : decide (r.err ≤ 255) = false := decide_eq_false (by omega)
  have HS := Lib.hid hS
  have HW := Lib.hid hw1
  have B1 := Lib.hid b1
  have P1 := Lib.hid p1
  have hlz := hl.1
  have c2 := at2 p1
  clear hS hw1 b1 p1 hl hr h0 h1
  go_enter Try.func34, Try.ntmps34
  go_upto_region 1 with (fail)
  rw [← HW.out, ← hx]
  clear hx
  go_upto_region 2 with (go_at_call 60; refine C1.out.mono ?_; rintro e w2 ⟨rfl, hb2⟩)
  have p2 := (hb2.block x (Array.getElem?_eq_some_iff.1 P1.out).1).trans P1.out
  have B2 := Lib.hid (B1.out.trans (belowLe B1.out.size hb2))
  clear c2
  have c0 := at0 p2
  have c1 := at1 p2
  have c2 := at2 p2
  clear hb2 p2
  go_wp2
  go_ret
  exact ⟨by rw [HS.out]; rfl, B2.out⟩
set_option maxRecDepth 100000 in
set_option maxHeartbeats 4000000 in
theorem right34_2 (r : RE) (hl : r.lens) (h0 : 0 ≤ r.err) (h1 : r.err ≤ 255) (h2 : ¬ 0 ≤ r.ver) (w : World) (hr : ObsR w r.A r.L) :
    Calls Try.prog 34 #[.agg (rc r)] w fun y w' => y = .returned (.bool (rightRp r.p)) ∧ Below w.heap.size w w' := by
  obtain ⟨w1, hw1, b1, p1⟩ := box60 w (rc r)
  obtain ⟨x, hx⟩ : ∃ x, x = w.heap.size := ⟨_, rfl⟩
  rw [← hx] at p1
  have hS : rightRp r.p = false := by
    unfold rightRp; rw [(show inR r.p.ver 1099511627776 = false from decide_eq_false (fun h => h2 h.1)), Bool.false_and, Bool.and_false]
  have C1 := Lib.hid (hasO_any r.L r.A r.c hl.1 hl.2 w1 (hr.below b1))
  obtain ⟨av, hav⟩ : ∃ av, av = r.L.any nshape := ⟨_, rfl⟩
  rw [← hav] at C1
  clear hav
  have d0 : decide (0 ≤ r.err) = true := decide_eq_true (by omega)
  have d1 : decide (r.err ≤ 255) = true := decide_eq_true (by omega)
  have d2 : decide (0 ≤ r.ver) = false := decide_eq_false (by omega)
  have HS := Lib.hid hS
  have HW := Lib.hid hw1
  have B1 := Lib.hid b1
  have P1 := Lib.hid p1
  have hlz := hl.1
  have c2 := at2 p1
  clear hS hw1 b1 p1 hl hr h0 h1 h2
  go_enter Try.func34, Try.ntmps34
  go_upto_region 1 with (fail)
  rw [← HW.out, ← hx]
  clear hx
  go_upto_region 2 with (go_at_call 60; refine C1.out.mono ?_; rintro e w2 ⟨rfl, hb2⟩)
  have p2 := (hb2.block x (Array.getElem?_eq_some_iff.1 P1.out).1).trans P1.out
  have B2 := Lib.hid (B1.out.trans (belowLe B1.out.size hb2))
  clear c2
  have c0 := at0 p2
  have c1 := at1 p2
  have c2 := at2 p2
  clear hb2 p2
  go_wp2
  go_ret
  exact ⟨by rw [HS.out]; rfl, B2.out⟩
set_option maxRecDepth 100000 in
set_option maxHeartbeats 4000000 in
theorem right34_3 (r : RE) (hl : r.lens) (h0 : 0 ≤ r.err) (h1 : r.err ≤ 255) (h2 : 0 ≤ r.ver) (h3 : ¬ r.ver ≤ 1099511627776) (w : World) (hr : ObsR w r.A r.L) :
    Calls Try.prog 34 #[.agg (rc r)] w fun y w' => y = .returned (.bool (rightRp r.p)) ∧ Below w.heap.size w w' := by
  obtain ⟨w1, hw1, b1, p1⟩ := box60 w (rc r)
  obtain ⟨x, hx⟩ : ∃ x, x = w.heap.size := ⟨_, rfl⟩
  rw [← hx] at p1
  have hS : rightRp r.p = false := by
    unfold rightRp; rw [(show inR r.p.ver 1099511627776 = false from decide_eq_false (fun h => h3 h.2)), Bool.false_and, Bool.and_false]
  have C1 := Lib.hid (hasO_any r.L r.A r.c hl.1 hl.2 w1 (hr.below b1))
  obtain ⟨av, hav⟩ : ∃ av, av = r.L.any nshape := ⟨_, rfl⟩
  rw [← hav] at C1
  clear hav
  have d0 : decide (0 ≤ r.err) = true := decide_eq_true (by omega)
  have d1 : decide (r.err ≤ 255) = true := decide_eq_true (by omega)
  have d2 : decide (0 ≤ r.ver) = true := decide_eq_true (by omega)
  have d3 : decide (r.ver ≤ 1099511627776) = false := decide_eq_false (by omega)
  have HS := Lib.hid hS
  have HW := Lib.hid hw1
  have B1 := Lib.hid b1
  have P1 := Lib.hid p1
  have hlz := hl.1
  have c2 := at2 p1
  clear hS hw1 b1 p1 hl hr h0 h1 h2 h3
  go_enter Try.func34, Try.ntmps34
  go_upto_region 1 with (fail)
  rw [← HW.out, ← hx]
  clear hx
  go_upto_region 2 with (go_at_call 60; refine C1.out.mono ?_; rintro e w2 ⟨rfl, hb2⟩)
  have p2 := (hb2.block x (Array.getElem?_eq_some_iff.1 P1.out).1).trans P1.out
  have B2 := Lib.hid (B1.out.trans (belowLe B1.out.size hb2))
  clear c2
  have c0 := at0 p2
  have c1 := at1 p2
  have c2 := at2 p2
  clear hb2 p2
  go_wp2
  go_ret
  exact ⟨by rw [HS.out]; rfl, B2.out⟩
set_option maxRecDepth 100000 in
set_option maxHeartbeats 4000000 in
theorem right34_4 (r : RE) (hl : r.lens) (h0 : 0 ≤ r.err) (h1 : r.err ≤ 255) (h2 : 0 ≤ r.ver) (h3 : r.ver ≤ 1099511627776) (h4 : r.L.any nshape = true) (w : World) (hr : ObsR w r.A r.L) :
    Calls Try.prog 34 #[.agg (rc r)] w fun y w' => y = .returned (.bool (rightRp r.p)) ∧ Below w.heap.size w w' := by
  obtain ⟨w1, hw1, b1, p1⟩ := box60 w (rc r)
  obtain ⟨x, hx⟩ : ∃ x, x = w.heap.size := ⟨_, rfl⟩
  rw [← hx] at p1
  have hS : rightRp r.p = false := by
    have h4' : r.p.l.all CodP.shape = false := nshape_false h4
    unfold rightRp; rw [h4', Bool.false_and, Bool.and_false, Bool.and_false]
  have C1 := Lib.hid (hasO_any r.L r.A r.c hl.1 hl.2 w1 (hr.below b1))
  rw [h4] at C1
  have d0 : decide (0 ≤ r.err) = true := decide_eq_true (by omega)
  have d1 : decide (r.err ≤ 255) = true := decide_eq_true (by omega)
  have d2 : decide (0 ≤ r.ver) = true := decide_eq_true (by omega)
  have d3 : decide (r.ver ≤ 1099511627776) = true := decide_eq_true (by omega)
  have HS := Lib.hid hS
  have HW := Lib.hid hw1
  have B1 := Lib.hid b1
  have P1 := Lib.hid p1
  have hlz := hl.1
  have c2 := at2 p1
  clear hS hw1 b1 p1 hl hr h0 h1 h2 h3 h4
  go_enter Try.func34, Try.ntmps34
  go_upto_region 1 with (fail)
  rw [← HW.out, ← hx]
  clear hx
  go_upto_region 2 with (go_at_call 60; refine C1.out.mono ?_; rintro e w2 ⟨rfl, hb2⟩)
  have p2 := (hb2.block x (Array.getElem?_eq_some_iff.1 P1.out).1).trans P1.out
  have B2 := Lib.hid (B1.out.trans (belowLe B1.out.size hb2))
  clear c2
  have c0 := at0 p2
  have c1 := at1 p2
  have c2 := at2 p2
  clear hb2 p2
  go_wp2
  go_ret
  exact ⟨by rw [HS.out]; rfl, B2.out⟩
set_option maxRecDepth 100000 in
set_option maxHeartbeats 4000000 in
theorem right34_5 (r : RE) (hl : r.lens) (h0 : 0 ≤ r.err) (h1 : r.err ≤ 255) (h2 : 0 ≤ r.ver) (h3 : r.ver ≤ 1099511627776) (h4 : r.L.any nshape = false) (h5 : ¬ r.L.length ≤ 200) (w : World) (hr : ObsR w r.A r.L) :
    Calls Try.prog 34 #[.agg (rc r)] w fun y w' => y = .returned (.bool (rightRp r.p)) ∧ Below w.heap.size w w' := by
  obtain ⟨w1, hw1, b1, p1⟩ := box60 w (rc r)
  obtain ⟨x, hx⟩ : ∃ x, x = w.heap.size := ⟨_, rfl⟩
  rw [← hx] at p1
  have hS : rightRp r.p = false := by
    have h4' : r.p.l.all CodP.shape = true := nshape_true h4
    have hln : r.p.l.length = r.L.length := List.length_map _
    unfold rightRp
    rw [decide_eq_false (show ¬ r.p.l.length ≤ 200 by omega), Bool.false_and, Bool.and_false, Bool.and_false, Bool.and_false]
  have C1 := Lib.hid (hasO_any r.L r.A r.c hl.1 hl.2 w1 (hr.below b1))
  rw [h4] at C1
  have d0 : decide (0 ≤ r.err) = true := decide_eq_true (by omega)
  have d1 : decide (r.err ≤ 255) = true := decide_eq_true (by omega)
  have d2 : decide (0 ≤ r.ver) = true := decide_eq_true (by omega)
  have d3 : decide (r.ver ≤ 1099511627776) = true := decide_eq_true (by omega)
  have d5 : decide ((r.L.length : Int) ≤ 200) = false := decide_eq_false (by omega)
  have HS := Lib.hid hS
  have HW := Lib.hid hw1
  have B1 := Lib.hid b1
  have P1 := Lib.hid p1
  have hlz := hl.1
  have c2 := at2 p1
  clear hS hw1 b1 p1 hl hr h0 h1 h2 h3 h4 h5
  go_enter Try.func34, Try.ntmps34
  go_upto_region 1 with (fail)
  rw [← HW.out, ← hx]
  clear hx
  go_upto_region 2 with (go_at_call 60; refine C1.out.mono ?_; rintro e w2 ⟨rfl, hb2⟩)
  have p2 := (hb2.block x (Array.getElem?_eq_some_iff.1 P1.out).1).trans P1.out
  have B2 := Lib.hid (B1.out.trans (belowLe B1.out.size hb2))
  clear c2
  have c0 := at0 p2
  have c1 := at1 p2
  have c2 := at2 p2
  clear hb2 p2
  go_wp2
  go_ret
  exact ⟨by rw [HS.out]; rfl, B2.out⟩
set_option maxRecDepth 100000 in
set_option maxHeartbeats 4000000 in
theorem right34_6 (r : RE) (hl : r.lens) (h0 : 0 ≤ r.err) (h1 : r.err ≤ 255) (h2 : 0 ≤ r.ver) (h3 : r.ver ≤ 1099511627776) (h4 : r.L.any nshape = false) (h5 : r.L.length ≤ 200) (h6 : ¬ r.err = 0) (h7 : ¬ r.L.length = 0) (w : World) (hr : ObsR w r.A r.L) :
    Calls Try.prog 34 #[.agg (rc r)] w fun y w' => y = .returned (.bool (rightRp r.p)) ∧ Below w.heap.size w w' := by
  obtain ⟨w1, hw1, b1, p1⟩ := box60 w (rc r)
  obtain ⟨x, hx⟩ : ∃ x, x = w.heap.size := ⟨_, rfl⟩
  rw [← hx] at p1
  have hS : rightRp r.p = false := by
    have h4' : r.p.l.all CodP.shape = true := nshape_true h4
    have hln : r.p.l.length = r.L.length := List.length_map _
    unfold rightRp
    rw [show inR r.p.err 255 = true from decide_eq_true ⟨h0, h1⟩, show inR r.p.ver 1099511627776 = true from decide_eq_true ⟨h2, h3⟩, h4', decide_eq_true (show r.p.l.length ≤ 200 by omega), decide_eq_false (show ¬ r.p.err = 0 from h6), decide_eq_false (show ¬ r.p.l.length = 0 by omega)]
    rfl
  have C1 := Lib.hid (hasO_any r.L r.A r.c hl.1 hl.2 w1 (hr.below b1))
  rw [h4] at C1
  have d0 : decide (0 ≤ r.err) = true := decide_eq_true (by omega)
  have d1 : decide (r.err ≤ 255) = true := decide_eq_true (by omega)
  have d2 : decide (0 ≤ r.ver) = true := decide_eq_true (by omega)
  have d3 : decide (r.ver ≤ 1099511627776) = true := decide_eq_true (by omega)
  have d5 : decide ((r.L.length : Int) ≤ 200) = true := decide_eq_true (by omega)
  have d6 : (r.err == 0) = false := by simp [h6]
  have d7 : ((r.L.length : Int) == 0) = false := by rw [beq_eq_false_iff_ne]; omega
  have HS := Lib.hid hS
  have HW := Lib.hid hw1
  have B1 := Lib.hid b1
  have P1 := Lib.hid p1
  have hlz := hl.1
  have c2 := at2 p1
  clear hS hw1 b1 p1 hl hr h0 h1 h2 h3 h4 h5 h6 h7
  go_enter Try.func34, Try.ntmps34
  go_upto_region 1 with (fail)
  rw [← HW.out, ← hx]
  clear hx
  go_upto_region 2 with (go_at_call 60; refine C1.out.mono ?_; rintro e w2 ⟨rfl, hb2⟩)
  have p2 := (hb2.block x (Array.getElem?_eq_some_iff.1 P1.out).1).trans P1.out
  have B2 := Lib.hid (B1.out.trans (belowLe B1.out.size hb2))
  clear c2
  have c0 := at0 p2
  have c1 := at1 p2
  have c2 := at2 p2
  clear hb2 p2
  go_wp2
  go_ret
  exact ⟨by rw [HS.out]; rfl, B2.out⟩
set_option maxRecDepth 100000 in
set_option maxHeartbeats 4000000 in
theorem right34_7 (r : RE) (hl : r.lens) (h0 : 0 ≤ r.err) (h1 : r.err ≤ 255) (h2 : 0 ≤ r.ver) (h3 : r.ver ≤ 1099511627776) (h4 : r.L.any nshape = false) (h5 : r.L.length ≤ 200) (h6 : r.err = 0) (w : World) (hr : ObsR w r.A r.L) :
    Calls Try.prog 34 #[.agg (rc r)] w fun y w' => y = .returned (.bool (rightRp r.p)) ∧ Below w.heap.size w w' := by
  obtain ⟨w1, hw1, b1, p1⟩ := box60 w (rc r)
  obtain ⟨x, hx⟩ : ∃ x, x = w.heap.size := ⟨_, rfl⟩
  rw [← hx] at p1
  have hS : rightRp r.p = true := by
    have h4' : r.p.l.all CodP.shape = true := nshape_true h4
    have hln : r.p.l.length = r.L.length := List.length_map _
    unfold rightRp
    rw [show inR r.p.err 255 = true from decide_eq_true ⟨h0, h1⟩, show inR r.p.ver 1099511627776 = true from decide_eq_true ⟨h2, h3⟩, h4', decide_eq_true (show r.p.l.length ≤ 200 by omega), decide_eq_true (show r.p.err = 0 from h6)]
    rfl
  have C1 := Lib.hid (hasO_any r.L r.A r.c hl.1 hl.2 w1 (hr.below b1))
  rw [h4] at C1
  have d0 : decide (0 ≤ r.err) = true := decide_eq_true (by omega)
  have d1 : decide (r.err ≤ 255) = true := decide_eq_true (by omega)
  have d2 : decide (0 ≤ r.ver) = true := decide_eq_true (by omega)
  have d3 : decide (r.ver ≤ 1099511627776) = true := decide_eq_true (by omega)
  have d5 : decide ((r.L.length : Int) ≤ 200) = true := decide_eq_true (by omega)
  have d6 : (r.err == 0) = true := by simp [h6]
  have HS := Lib.hid hS
  have HW := Lib.hid hw1
  have B1 := Lib.hid b1
  have P1 := Lib.hid p1
  have hlz := hl.1
  have c2 := at2 p1
  clear hS hw1 b1 p1 hl hr h0 h1 h2 h3 h4 h5 h6
  go_enter Try.func34, Try.ntmps34
  go_upto_region 1 with (fail)
  rw [← HW.out, ← hx]
  clear hx
  go_upto_region 2 with (go_at_call 60; refine C1.out.mono ?_; rintro e w2 ⟨rfl, hb2⟩)
  have p2 := (hb2.block x (Array.getElem?_eq_some_iff.1 P1.out).1).trans P1.out
  have B2 := Lib.hid (B1.out.trans (belowLe B1.out.size hb2))
  clear c2
  have c0 := at0 p2
  have c1 := at1 p2
  have c2 := at2 p2
  clear hb2 p2
  go_wp2
  go_ret
  exact ⟨by rw [HS.out]; rfl, B2.out⟩
set_option maxRecDepth 100000 in
set_option maxHeartbeats 4000000 in
theorem right34_8 (r : RE) (hl : r.lens) (h0 : 0 ≤ r.err) (h1 : r.err ≤ 255) (h2 : 0 ≤ r.ver) (h3 : r.ver ≤ 1099511627776) (h4 : r.L.any nshape = false) (h5 : r.L.length ≤ 200) (h6 : ¬ r.err = 0) (h7 : r.L.length = 0) (w : World) (hr : ObsR w r.A r.L) :
    Calls Try.prog 34 #[.agg (rc r)] w fun y w' => y = .returned (.bool (rightRp r.p)) ∧ Below w.heap.size w w' := by
  obtain ⟨w1, hw1, b1, p1⟩ := box60 w (rc r)
  obtain ⟨x, hx⟩ : ∃ x, x = w.heap.size := ⟨_, rfl⟩
  rw [← hx] at p1
  have hS : rightRp r.p = true := by
    have h4' : r.p.l.all CodP.shape = true := nshape_true h4
    have hln : r.p.l.length = r.L.length := List.length_map _
    unfold rightRp
    rw [show inR r.p.err 255 = true from decide_eq_true ⟨h0, h1⟩, show inR r.p.ver 1099511627776 = true from decide_eq_true ⟨h2, h3⟩, h4', decide_eq_true (show r.p.l.length ≤ 200 by omega), decide_eq_true (show r.p.l.length = 0 by omega), Bool.or_true]
    rfl
  have C1 := Lib.hid (hasO_any r.L r.A r.c hl.1 hl.2 w1 (hr.below b1))
  rw [h4] at C1
  have d0 : decide (0 ≤ r.err) = true := decide_eq_true (by omega)
  have d1 : decide (r.err ≤ 255) = true := decide_eq_true (by omega)
  have d2 : decide (0 ≤ r.ver) = true := decide_eq_true (by omega)
  have d3 : decide (r.ver ≤ 1099511627776) = true := decide_eq_true (by omega)
  have d5 : decide ((r.L.length : Int) ≤ 200) = true := decide_eq_true (by omega)
  have d6 : (r.err == 0) = false := by simp [h6]
  have d7 : ((r.L.length : Int) == 0) = true := by simp [h7]
  have HS := Lib.hid hS
  have HW := Lib.hid hw1
  have B1 := Lib.hid b1
  have P1 := Lib.hid p1
  have hlz := hl.1
  have c2 := at2 p1
  clear hS hw1 b1 p1 hl hr h0 h1 h2 h3 h4 h5 h6 h7
  go_enter Try.func34, Try.ntmps34
  go_upto_region 1 with (fail)
  rw [← HW.out, ← hx]
  clear hx
  go_upto_region 2 with (go_at_call 60; refine C1.out.mono ?_; rintro e w2 ⟨rfl, hb2⟩)
  have p2 := (hb2.block x (Array.getElem?_eq_some_iff.1 P1.out).1).trans P1.out
  have B2 := Lib.hid (B1.out.trans (belowLe B1.out.size hb2))
  clear c2
  have c0 := at0 p2
  have c1 := at1 p2
  have c2 := at2 p2
  clear hb2 p2
  go_wp2
  go_ret
  exact ⟨by rw [HS.out]; rfl, B2.out⟩
theorem right34_any (r : RE) (hl : r.lens)  (w : World) (hr : ObsR w r.A r.L) :
    Calls Try.prog 34 #[.agg (rc r)] w fun y w' => y = .returned (.bool (rightRp r.p)) ∧ Below w.heap.size w w' := by
  by_cases h0 : 0 ≤ r.err
  rotate_left
  · exact right34_0 r hl h0 w hr
  by_cases h1 : r.err ≤ 255
  rotate_left
  · exact right34_1 r hl h0 h1 w hr
  by_cases h2 : 0 ≤ r.ver
  rotate_left
  · exact right34_2 r hl h0 h1 h2 w hr
  by_cases h3 : r.ver ≤ 1099511627776
  rotate_left
  · exact right34_3 r hl h0 h1 h2 h3 w hr
  cases h4 : r.L.any nshape
  rotate_left
  · exact right34_4 r hl h0 h1 h2 h3 h4 w hr
  by_cases h5 : r.L.length ≤ 200
  rotate_left
  · exact right34_5 r hl h0 h1 h2 h3 h4 h5 w hr
  by_cases h6 : r.err = 0
  · exact right34_7 r hl h0 h1 h2 h3 h4 h5 h6 w hr
  by_cases h7 : r.L.length = 0
  · exact right34_8 r hl h0 h1 h2 h3 h4 h5 h6 h7 w hr
  · exact right34_6 r hl h0 h1 h2 h3 h4 h5 h6 h7 w hr
set_option maxRecDepth 100000 in
set_option maxHeartbeats 4000000 in
theorem right35_0 (r : RE) (hl : r.lens) (h0 : ¬ 0 ≤ r.err) (w : World) (hr : ObsR w r.A r.L) :
    Calls Try.prog 35 #[.agg (rc r)] w fun y w' => y = .returned (.bool (rightRp r.p)) ∧ Below w.heap.size w w' := by
  obtain ⟨w1, hw1, b1, p1⟩ := box60 w (rc r)
  obtain ⟨x, hx⟩ : ∃ x, x = w.heap.size := ⟨_, rfl⟩
  rw [← hx] at p1
  have hS : rightRp r.p = false := by
    unfold rightRp; rw [(show inR r.p.err 255 = false from decide_eq_false (fun h => h0 h.1)), Bool.false_and]
  have d0 : decide (r.err < 0) = true := decide_eq_true (by omega)
  have HS := Lib.hid hS
  have HW := Lib.hid hw1
  have B1 := Lib.hid b1
  have P1 := Lib.hid p1
  have c0 := at0 p1
  have c1 := at1 p1
  have c2 := at2 p1
  have hlz := hl.1
  have HZ := Lib.hid hl.2
  have HR := Lib.hid (hr.below b1)
  clear hS hw1 b1 p1 hl hr h0
  go_enter Try.func35, Try.ntmps35
  go_upto_region 1 with (fail)
  rw [← HW.out, ← hx]
  clear hx
  go_wp2
  go_ret
  exact ⟨by rw [HS.out]; rfl, B1.out⟩
set_option maxRecDepth 100000 in
set_option maxHeartbeats 4000000 in
theorem right35_1 (r : RE) (hl : r.lens) (h0 : 0 ≤ r.err) (h1 : ¬ r.err ≤ 255) (w : World) (hr : ObsR w r.A r.L) :
    Calls Try.prog 35 #[.agg (rc r)] w fun y w' => y = .returned (.bool (rightRp r.p)) ∧ Below w.heap.size w w' := by
  obtain ⟨w1, hw1, b1, p1⟩ := box60 w (rc r)
  obtain ⟨x, hx⟩ : ∃ x, x = w.heap.size := ⟨_, rfl⟩
  rw [← hx] at p1
  have hS : rightRp r.p = false := by
    unfold rightRp; rw [(show inR r.p.err 255 = false from decide_eq_false (fun h => h1 h.2)), Bool.false_and]
  have d0 : decide (r.err < 0) = false := decide_eq_false (by omega)
  have d1 : decide (255 < r.err) = true := decide_eq_true (by omega)
  have HS := Lib.hid hS
  have HW := Lib.hid hw1
  have B1 := Lib.hid b1
  have P1 := Lib.hid p1
  have c0 := at0 p1
  have c1 := at1 p1
  have c2 := at2 p1
  have hlz := hl.1
  have HZ := Lib.hid hl.2
  have HR := Lib.hid (hr.below b1)
  clear hS hw1 b1 p1 hl hr h0 h1
  go_enter Try.func35, Try.ntmps35
  go_upto_region 1 with (fail)
  rw [← HW.out, ← hx]
  clear hx
  go_wp2
  go_ret
  exact ⟨by rw [HS.out]; rfl, B1.out⟩
set_option maxRecDepth 100000 in
set_option maxHeartbeats 4000000 in
theorem right35_2 (r : RE) (hl : r.lens) (h0 : 0 ≤ r.err) (h1 : r.err ≤ 255) (h2 : inR r.ver 1099511627776 = false) (w : World) (hr : ObsR w r.A r.L) :
    Calls Try.prog 35 #[.agg (rc r)] w fun y w' => y = .returned (.bool (rightRp r.p)) ∧ Below w.heap.size w w' := by
  obtain ⟨w1, hw1, b1, p1⟩ := box60 w (rc r)
  obtain ⟨x, hx⟩ : ∃ x, x = w.heap.size := ⟨_, rfl⟩
  rw [← hx] at p1
  have hS : rightRp r.p = false := by
    unfold rightRp; rw [show inR r.p.ver 1099511627776 = false from h2, Bool.false_and, Bool.and_false]
  have d0 : decide (r.err < 0) = false := decide_eq_false (by omega)
  have d1 : decide (255 < r.err) = false := decide_eq_false (by omega)
  have C57 := Lib.hid (in_any r.ver 1099511627776 false h2)
  have HS := Lib.hid hS
  have HW := Lib.hid hw1
  have B1 := Lib.hid b1
  have P1 := Lib.hid p1
  have c0 := at0 p1
  have c1 := at1 p1
  have c2 := at2 p1
  have hlz := hl.1
  have HZ := Lib.hid hl.2
  have HR := Lib.hid (hr.below b1)
  clear hS hw1 b1 p1 hl hr h0 h1 h2
  go_enter Try.func35, Try.ntmps35
  go_upto_region 1 with (fail)
  rw [← HW.out, ← hx]
  clear hx
  go_wp2_with (go_at_call 57; refine (C57.out _).mono ?_; rintro e w9 ⟨rfl, hw9⟩; have hw8 := hw9.symm; clear hw9; subst hw8)
  go_ret
  exact ⟨by rw [HS.out]; rfl, B1.out⟩
set_option maxRecDepth 100000 in
set_option maxHeartbeats 4000000 in
theorem right35_5 (r : RE) (hl : r.lens) (h0 : 0 ≤ r.err) (h1 : r.err ≤ 255) (h2 : inR r.ver 1099511627776 = true) (h5 : ¬ r.L.length ≤ 200) (w : World) (hr : ObsR w r.A r.L) :
    Calls Try.prog 35 #[.agg (rc r)] w fun y w' => y = .returned (.bool (rightRp r.p)) ∧ Below w.heap.size w w' := by
  obtain ⟨w1, hw1, b1, p1⟩ := box60 w (rc r)
  obtain ⟨x, hx⟩ : ∃ x, x = w.heap.size := ⟨_, rfl⟩
  rw [← hx] at p1
  have hS : rightRp r.p = false := by
    have hln : r.p.l.length = r.L.length := List.length_map _
    unfold rightRp
    rw [decide_eq_false (show ¬ r.p.l.length ≤ 200 by omega), Bool.false_and, Bool.and_false, Bool.and_false, Bool.and_false]
  have d0 : decide (r.err < 0) = false := decide_eq_false (by omega)
  have d1 : decide (255 < r.err) = false := decide_eq_false (by omega)
  have d5 : decide ((200 : Int) < r.L.length) = true := decide_eq_true (by omega)
  have C57 := Lib.hid (in_any r.ver 1099511627776 true h2)
  have HS := Lib.hid hS
  have HW := Lib.hid hw1
  have B1 := Lib.hid b1
  have P1 := Lib.hid p1
  have c0 := at0 p1
  have c1 := at1 p1
  have c2 := at2 p1
  have hlz := hl.1
  have HZ := Lib.hid hl.2
  have HR := Lib.hid (hr.below b1)
  clear hS hw1 b1 p1 hl hr h0 h1 h2 h5
  go_enter Try.func35, Try.ntmps35
  go_upto_region 1 with (fail)
  rw [← HW.out, ← hx]
  clear hx
  go_wp2_with (go_at_call 57; refine (C57.out _).mono ?_; rintro e w9 ⟨rfl, hw9⟩; have hw8 := hw9.symm; clear hw9; subst hw8)
  go_ret
  exact ⟨by rw [HS.out]; rfl, B1.out⟩
set_option maxRecDepth 100000 in
set_option maxHeartbeats 4000000 in
theorem right35_6 (r : RE) (hl : r.lens) (h0 : 0 ≤ r.err) (h1 : r.err ≤ 255) (h2 : inR r.ver 1099511627776 = true) (h5 : r.L.length ≤ 200) (h6 : ¬ r.err = 0) (h7 : ¬ r.L.length = 0) (w : World) (hr : ObsR w r.A r.L) :
    Calls Try.prog 35 #[.agg (rc r)] w fun y w' => y = .returned (.bool (rightRp r.p)) ∧ Below w.heap.size w w' := by
  obtain ⟨w1, hw1, b1, p1⟩ := box60 w (rc r)
  obtain ⟨x, hx⟩ : ∃ x, x = w.heap.size := ⟨_, rfl⟩
  rw [← hx] at p1
  have hS : rightRp r.p = false := by
    have hln : r.p.l.length = r.L.length := List.length_map _
    unfold rightRp
    rw [decide_eq_false (show ¬ r.p.err = 0 from h6), decide_eq_false (show ¬ r.p.l.length = 0 by omega), Bool.or_self, Bool.and_false, Bool.and_false, Bool.and_false, Bool.and_false]
  have d0 : decide (r.err < 0) = false := decide_eq_false (by omega)
  have d1 : decide (255 < r.err) = false := decide_eq_false (by omega)
  have d5 : decide ((200 : Int) < r.L.length) = false := decide_eq_false (by omega)
  have d6 : (r.err != 0) = true := by simp [h6]
  have d7 : decide (0 < r.L.length) = true := decide_eq_true (by omega)
  have C57 := Lib.hid (in_any r.ver 1099511627776 true h2)
  have HS := Lib.hid hS
  have HW := Lib.hid hw1
  have B1 := Lib.hid b1
  have P1 := Lib.hid p1
  have c0 := at0 p1
  have c1 := at1 p1
  have c2 := at2 p1
  have hlz := hl.1
  have HZ := Lib.hid hl.2
  have HR := Lib.hid (hr.below b1)
  clear hS hw1 b1 p1 hl hr h0 h1 h2 h5 h6 h7
  go_enter Try.func35, Try.ntmps35
  go_upto_region 1 with (fail)
  rw [← HW.out, ← hx]
  clear hx
  go_wp2_with (go_at_call 57; refine (C57.out _).mono ?_; rintro e w9 ⟨rfl, hw9⟩; have hw8 := hw9.symm; clear hw9; subst hw8)
  go_ret
  exact ⟨by rw [HS.out]; rfl, B1.out⟩
set_option maxRecDepth 100000 in
set_option maxHeartbeats 4000000 in
theorem right35_7 (r : RE) (hl : r.lens) (h0 : 0 ≤ r.err) (h1 : r.err ≤ 255) (h2 : inR r.ver 1099511627776 = true) (h5 : r.L.length ≤ 200) (h6 : r.err = 0) (w : World) (hr : ObsR w r.A r.L) :
    Calls Try.prog 35 #[.agg (rc r)] w fun y w' => y = .returned (.bool (rightRp r.p)) ∧ Below w.heap.size w w' := by
  obtain ⟨w1, hw1, b1, p1⟩ := box60 w (rc r)
  obtain ⟨x, hx⟩ : ∃ x, x = w.heap.size := ⟨_, rfl⟩
  rw [← hx] at p1
  have hS : rightRp r.p = (r.L.map (·.o)).all CodP.shape := by
    have hln : r.p.l.length = r.L.length := List.length_map _
    unfold rightRp
    rw [show inR r.p.err 255 = true from decide_eq_true ⟨h0, h1⟩, show inR r.p.ver 1099511627776 = true from h2, decide_eq_true (show r.p.l.length ≤ 200 by omega), decide_eq_true (show r.p.err = 0 from h6), Bool.true_or, Bool.and_true, Bool.and_true, Bool.true_and, Bool.true_and]
    rfl
  have d0 : decide (r.err < 0) = false := decide_eq_false (by omega)
  have d1 : decide (255 < r.err) = false := decide_eq_false (by omega)
  have d5 : decide ((200 : Int) < r.L.length) = false := decide_eq_false (by omega)
  have d6 : (r.err != 0) = false := by simp [h6]
  have C57 := Lib.hid (in_any r.ver 1099511627776 true h2)
  have HS := Lib.hid hS
  have HW := Lib.hid hw1
  have B1 := Lib.hid b1
  have P1 := Lib.hid p1
  have c0 := at0 p1
  have c1 := at1 p1
  have c2 := at2 p1
  have hlz := hl.1
  have HZ := Lib.hid hl.2
  have HR := Lib.hid (hr.below b1)
  clear hS hw1 b1 p1 hl hr h0 h1 h2 h5 h6
  go_enter Try.func35, Try.ntmps35
  go_upto_region 1 with (fail)
  rw [← HW.out, ← hx]
  clear hx
  go_upto_region 3 with (go_at_call 57; refine (C57.out _).mono ?_; rintro e w9 ⟨rfl, hw9⟩; have hw8 := hw9.symm; clear hw9; subst hw8)
  clear c0 c1 c2
  go_wp2
  go_loopw [3] (fun i wr => ∃ k : Nat, k ≤ r.L.length ∧ i = .int .i64 k ∧ Hid ((∀ e ∈ r.L.take k, CodP.shape e.o = true) ∧ wr.heap[x]? = some (.cells (rc r) 60 (0, 0)) ∧ Below w1.heap.size w1 wr)) (fun i _ => r.L.length - (intOf i).toNat)
  case atStart => exact ⟨0, Nat.zero_le _, rfl, Lib.hid ⟨by simp, P1.out, Below.refl _ _⟩⟩
  case round =>
    obtain ⟨k, hk, rfl, H⟩ := hrel
    have c2 := at2 H.out.2.1
    by_cases hkn : k < r.L.length
    · obtain ⟨e, he⟩ : ∃ e, r.L[k]? = some e := ⟨_, List.getElem?_eq_getElem hkn⟩
      obtain ⟨b, p, hA, hrg, hrows⟩ := (HR.out.below H.out.2.2).at he
      rw [hA] at c2
      have HE := Lib.hid he
      have HRG := Lib.hid hrg
      have C1 := Lib.hid (rshape_any e.o e.f e.l e.c e.p e.i (HZ.out e (List.mem_of_getElem? he)) wr hrows)
      clear he hrg hrows hA
      go_upto_region 6 with (fail)
      repeat (first | ((refine wpList_load_elem rfl (.tmp 45) rfl b (p + k * 19) rfl e HRG.out ?_); (try simp only [Act.put, List.setIfInBounds_toArray, List.set_cons_zero, List.set_cons_succ])) | go_values | go_skip | go_guarded | go_step)
      go_wp2_with (fail)
      refine C1.out.mono ?_
      clear c2
      cases hs : CodP.shape e.o
      · have hn : (r.L.map (·.o)).all CodP.shape = false := by
          rw [List.all_eq_false]; exact ⟨e.o, List.mem_map_of_mem (List.mem_of_getElem? HE.out), by rw [hs]; decide⟩
        have HN := Lib.hid hn
        clear hs hn
        rintro y w3 ⟨rfl, hb3⟩
        go_wp2
        go_ret
        exact ⟨by rw [HS.out, HN.out]; rfl, B1.out.trans (belowLe B1.out.size (G.bthen H.out.2.2 hb3))⟩
      · have HN := Lib.hid hs
        clear hs
        rintro y w3 ⟨rfl, hb3⟩
        have HB3 := Lib.hid hb3
        clear hb3
        go_wp2
        go_roundw
        case rel =>
          refine ⟨k + 1, by omega, by go_num, Lib.hid ⟨fun e' he' => ?_, (HB3.out.block x (Array.getElem?_eq_some_iff.1 H.out.2.1).1).trans H.out.2.1, G.bthen H.out.2.2 HB3.out⟩⟩
          rw [List.take_add_one, HE.out] at he'
          rcases List.mem_append.1 he' with h1 | h1
          · exact H.out.1 e' h1
          · simp at h1; rw [h1]; exact HN.out
        case measure => simp [intOf]; omega
    · obtain rfl : k = r.L.length := by omega
      have hn : (r.L.map (·.o)).all CodP.shape = true := by
        rw [List.all_eq_true]; intro o ho; obtain ⟨e, he, rfl⟩ := List.mem_map.1 ho; have := H.out.1; rw [List.take_length] at this; exact this e he
      have HN := Lib.hid hn
      have HB := Lib.hid H.out.2.2
      clear hn hkn hk H
      go_wp2
      go_ret
      exact ⟨by rw [HS.out, HN.out]; rfl, B1.out.trans (belowLe B1.out.size HB.out)⟩
set_option maxRecDepth 100000 in
set_option maxHeartbeats 4000000 in
theorem right35_8 (r : RE) (hl : r.lens) (h0 : 0 ≤ r.err) (h1 : r.err ≤ 255) (h2 : inR r.ver 1099511627776 = true) (h5 : r.L.length ≤ 200) (h6 : ¬ r.err = 0) (h7 : r.L.length = 0) (w : World) (hr : ObsR w r.A r.L) :
    Calls Try.prog 35 #[.agg (rc r)] w fun y w' => y = .returned (.bool (rightRp r.p)) ∧ Below w.heap.size w w' := by
  obtain ⟨w1, hw1, b1, p1⟩ := box60 w (rc r)
  obtain ⟨x, hx⟩ : ∃ x, x = w.heap.size := ⟨_, rfl⟩
  rw [← hx] at p1
  have hS : rightRp r.p = (r.L.map (·.o)).all CodP.shape := by
    have hln : r.p.l.length = r.L.length := List.length_map _
    unfold rightRp
    rw [show inR r.p.err 255 = true from decide_eq_true ⟨h0, h1⟩, show inR r.p.ver 1099511627776 = true from h2, decide_eq_true (show r.p.l.length ≤ 200 by omega), decide_eq_true (show r.p.l.length = 0 by omega), Bool.or_true, Bool.and_true, Bool.and_true, Bool.true_and, Bool.true_and]
    rfl
  have d0 : decide (r.err < 0) = false := decide_eq_false (by omega)
  have d1 : decide (255 < r.err) = false := decide_eq_false (by omega)
  have d5 : decide ((200 : Int) < r.L.length) = false := decide_eq_false (by omega)
  have d6 : (r.err != 0) = true := by simp [h6]
  have d7 : decide (0 < r.L.length) = false := decide_eq_false (by omega)
  have C57 := Lib.hid (in_any r.ver 1099511627776 true h2)
  have HS := Lib.hid hS
  have HW := Lib.hid hw1
  have B1 := Lib.hid b1
  have P1 := Lib.hid p1
  have c0 := at0 p1
  have c1 := at1 p1
  have c2 := at2 p1
  have hlz := hl.1
  have HZ := Lib.hid hl.2
  have HR := Lib.hid (hr.below b1)
  clear hS hw1 b1 p1 hl hr h0 h1 h2 h5 h6 h7
  go_enter Try.func35, Try.ntmps35
  go_upto_region 1 with (fail)
  rw [← HW.out, ← hx]
  clear hx
  go_upto_region 3 with (go_at_call 57; refine (C57.out _).mono ?_; rintro e w9 ⟨rfl, hw9⟩; have hw8 := hw9.symm; clear hw9; subst hw8)
  clear c0 c1 c2
  go_wp2
  go_loopw [3] (fun i wr => ∃ k : Nat, k ≤ r.L.length ∧ i = .int .i64 k ∧ Hid ((∀ e ∈ r.L.take k, CodP.shape e.o = true) ∧ wr.heap[x]? = some (.cells (rc r) 60 (0, 0)) ∧ Below w1.heap.size w1 wr)) (fun i _ => r.L.length - (intOf i).toNat)
  case atStart => exact ⟨0, Nat.zero_le _, rfl, Lib.hid ⟨by simp, P1.out, Below.refl _ _⟩⟩
  case round =>
    obtain ⟨k, hk, rfl, H⟩ := hrel
    have c2 := at2 H.out.2.1
    by_cases hkn : k < r.L.length
    · obtain ⟨e, he⟩ : ∃ e, r.L[k]? = some e := ⟨_, List.getElem?_eq_getElem hkn⟩
      obtain ⟨b, p, hA, hrg, hrows⟩ := (HR.out.below H.out.2.2).at he
      rw [hA] at c2
      have HE := Lib.hid he
      have HRG := Lib.hid hrg
      have C1 := Lib.hid (rshape_any e.o e.f e.l e.c e.p e.i (HZ.out e (List.mem_of_getElem? he)) wr hrows)
      clear he hrg hrows hA
      go_upto_region 6 with (fail)
      repeat (first | ((refine wpList_load_elem rfl (.tmp 45) rfl b (p + k * 19) rfl e HRG.out ?_); (try simp only [Act.put, List.setIfInBounds_toArray, List.set_cons_zero, List.set_cons_succ])) | go_values | go_skip | go_guarded | go_step)
      go_wp2_with (fail)
      refine C1.out.mono ?_
      clear c2
      cases hs : CodP.shape e.o
      · have hn : (r.L.map (·.o)).all CodP.shape = false := by
          rw [List.all_eq_false]; exact ⟨e.o, List.mem_map_of_mem (List.mem_of_getElem? HE.out), by rw [hs]; decide⟩
        have HN := Lib.hid hn
        clear hs hn
        rintro y w3 ⟨rfl, hb3⟩
        go_wp2
        go_ret
        exact ⟨by rw [HS.out, HN.out]; rfl, B1.out.trans (belowLe B1.out.size (G.bthen H.out.2.2 hb3))⟩
      · have HN := Lib.hid hs
        clear hs
        rintro y w3 ⟨rfl, hb3⟩
        have HB3 := Lib.hid hb3
        clear hb3
        go_wp2
        go_roundw
        case rel =>
          refine ⟨k + 1, by omega, by go_num, Lib.hid ⟨fun e' he' => ?_, (HB3.out.block x (Array.getElem?_eq_some_iff.1 H.out.2.1).1).trans H.out.2.1, G.bthen H.out.2.2 HB3.out⟩⟩
          rw [List.take_add_one, HE.out] at he'
          rcases List.mem_append.1 he' with h1 | h1
          · exact H.out.1 e' h1
          · simp at h1; rw [h1]; exact HN.out
        case measure => simp [intOf]; omega
    · obtain rfl : k = r.L.length := by omega
      have hn : (r.L.map (·.o)).all CodP.shape = true := by
        rw [List.all_eq_true]; intro o ho; obtain ⟨e, he, rfl⟩ := List.mem_map.1 ho; have := H.out.1; rw [List.take_length] at this; exact this e he
      have HN := Lib.hid hn
      have HB := Lib.hid H.out.2.2
      clear hn hkn hk H
      go_wp2
      go_ret
      exact ⟨by rw [HS.out, HN.out]; rfl, B1.out.trans (belowLe B1.out.size HB.out)⟩
theorem right35_any (r : RE) (hl : r.lens)  (w : World) (hr : ObsR w r.A r.L) :
    Calls Try.prog 35 #[.agg (rc r)] w fun y w' => y = .returned (.bool (rightRp r.p)) ∧ Below w.heap.size w w' := by
  by_cases h0 : 0 ≤ r.err
  rotate_left
  · exact right35_0 r hl h0 w hr
  by_cases h1 : r.err ≤ 255
  rotate_left
  · exact right35_1 r hl h0 h1 w hr
  cases h2 : inR r.ver 1099511627776
  · exact right35_2 r hl h0 h1 h2 w hr
  by_cases h5 : r.L.length ≤ 200
  rotate_left
  · exact right35_5 r hl h0 h1 h2 h5 w hr
  by_cases h6 : r.err = 0
  · exact right35_7 r hl h0 h1 h2 h5 h6 w hr
  by_cases h7 : r.L.length = 0
  · exact right35_8 r hl h0 h1 h2 h5 h6 h7 w hr
  · exact right35_6 r hl h0 h1 h2 h5 h6 h7 w hr
end Go.Proofs.Ytolndeolehkjoaa
