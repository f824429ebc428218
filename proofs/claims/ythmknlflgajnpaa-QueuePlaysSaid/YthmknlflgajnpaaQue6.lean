/- The walks of the reference's Without, of begin and awake. -/
import Derived.Test.YthmknlflgajnpaaQue5
namespace Go.Proofs.Ythmknlflgajnpaa
open Go.RowKit
def wo (l : List Ref) (r : Ref) : List Ref := l.filter fun x => decide (x ≠ r)
theorem wo_take {l : List Ref} {r : Ref} {k : Nat} (h : k < l.length) : wo (l.take (k + 1)) r = if l[k] = r then wo (l.take k) r else wo (l.take k) r ++ [l[k]] := by
  unfold wo
  rw [List.take_succ_eq_append_getElem h, List.filter_append]
  by_cases he : l[k] = r
  · simp [he]
  · simp [he]
set_option maxRecDepth 100000 in
set_option maxHeartbeats 2000000 in
theorem without_any (v : Value) (l : List Ref) (r : Ref) (w : World) (h : Row w v l) (hl : l.length ≤ 1000000) :
    Calls Try.prog 13 #[v, rv r] w fun e w' => ∃ v', e = .returned v' ∧ w'.ownsRow w.heap.size 30 2 v' (wo l r).length ((wo l r).flatMap rc) ∧ Below w.heap.size w w' := by
  obtain ⟨W, hW⟩ : ∃ W, W = w.alloc (.cells #[.int .i64 r.kind, .string r.name] 30) := ⟨_, rfl⟩
  have hbW : Below w.heap.size w W := by rw [hW]; exact (Below.refl _ _).alloc (Nat.le_refl _) _
  have hbox : W.heap[w.heap.size]? = some (.cells #[.int .i64 r.kind, .string r.name] 30 (0, 0)) := by rw [hW]; exact G.heap_new w _
  have hWs : W.heap.size = w.heap.size + 1 := by rw [hW]; simp
  have hst : (W.alloc (.cells #[] 30)).ownsRow W.heap.size 30 2 (.slice (some ⟨w.heap.size + 1, 0, none⟩) 0 0) 0 [] := ⟨rfl, .inr ⟨W.heap.size, 0, #[], by rw [hWs], Nat.le_refl _, G.heap_new _ _, Nat.le_refl _, by decide, rfl, rfl⟩⟩
  have hst2 : Below W.heap.size W (W.alloc (.cells #[] 30)) := (Below.refl _ _).alloc (Nat.le_refl _) _
  rcases h with ⟨rfl, rfl⟩ | ⟨g, c, rfl, hcap, hc⟩
  · have Hb := Lib.hid hbW
    have HW := Lib.hid hW
    have H1 := Lib.hid hst
    have H2 := Lib.hid hst2
    clear hbW hl hW hst hst2 hbox hWs
    unfold rv
    go_enter Try.func13, Try.ntmps13
    go_wp2
    go_loopw [5, 6] (fun v i wr => v = .slice (some ⟨w.heap.size + 1, 0, none⟩) 0 0 ∧ i = .int .i64 0 ∧ wr = (w.alloc (.cells #[.int .i64 r.kind, .string r.name] 30)).alloc (.cells #[] 30)) (fun _ _ _ => 0)
    case atStart => exact ⟨rfl, rfl, rfl⟩
    case round =>
      obtain ⟨rfl, rfl, rfl⟩ := hrel
      go_wp2
      go_ret
      rw [← HW.out]
      exact ⟨_, rfl, owns_base_le H1.out Hb.out.size, G.bthen Hb.out H2.out⟩
  · obtain ⟨n, hn⟩ : ∃ n, n = l.length := ⟨_, rfl⟩
    rw [← hn] at hcap hl
    rw [← hn]
    have hc2 : ∀ k (hk : k < l.length) (V : World), Below W.heap.size W V → V.cell? ⟨g, k * 2, none⟩ = some (.int .i64 l[k].kind) ∧ V.cell? ⟨g, k * 2 + 1, none⟩ = some (.string l[k].name) := fun k hk V hV =>
      ⟨G.cell_below (G.bthen hbW hV) (hc _ _ (flat_at l k hk).1), G.cell_below (G.bthen hbW hV) (hc _ _ (flat_at l k hk).2)⟩
    have hb2 : ∀ V : World, Below W.heap.size W V → V.heap[w.heap.size]? = some (.cells #[.int .i64 r.kind, .string r.name] 30 (0, 0)) := fun V hV => (hV.block _ (by omega)).trans hbox
    have HC := Lib.hid hc2
    have HB := Lib.hid hb2
    have Hb := Lib.hid hbW
    have Hn := Lib.hid hn
    have HW := Lib.hid hW
    have HS := Lib.hid hWs
    have H1 := Lib.hid hst
    have H2 := Lib.hid hst2
    clear hbW hc hc2 hb2 hn hcap hW hWs hst hst2 hbox
    unfold rv
    go_enter Try.func13, Try.ntmps13
    go_wp2
    go_loopw [5, 6] (fun v i wr => ∃ k : Nat, k ≤ n ∧ i = .int .i64 k ∧ Hid (wr.ownsRow W.heap.size 30 2 v (wo (l.take k) r).length ((wo (l.take k) r).flatMap rc)) ∧ Hid (Below W.heap.size W wr)) (fun _ i _ => n - (intOf i).toNat)
    case atStart => exact ⟨0, by omega, by go_num, Lib.hid (by rw [← HW.out]; exact H1.out), Lib.hid (by rw [← HW.out]; exact H2.out)⟩
    case round =>
      obtain ⟨k, hk, rfl, HO, HBl⟩ := hrel
      have b1 := HB.out wr HBl.out
      have e1 : wr.cell? ⟨w.heap.size, 0, none⟩ = some (.int .i64 r.kind) := by simp [World.cell?, b1]
      have e2 : wr.cell? ⟨w.heap.size, 1, none⟩ = some (.string r.name) := by simp [World.cell?, b1]
      clear b1
      by_cases hlt : k < n
      · have hka : k < l.length := by have := Hn.out; omega
        have c1 := (HC.out k hka wr HBl.out).1
        have c2 := (HC.out k hka wr HBl.out).2
        have hstep := wo_take (r := r) hka
        obtain ⟨x, hx⟩ : ∃ x, x = l[k] := ⟨_, rfl⟩
        rw [← hx] at c1 c2 hstep
        have Hx := Lib.hid hx
        clear hx
        by_cases he : x = r
        · have heq := run_ne_ref x r
          unfold rv at heq
          rw [decide_eq_true he] at heq
          rw [if_pos he] at hstep
          have Hst := Lib.hid hstep
          clear he hstep
          go_wp2
          go_quiet (fail)
          go_wp2
          go_roundw
          case rel =>
            refine ⟨k + 1, by omega, by go_num, Lib.hid ?_, Lib.hid (G.bdrewN HBl.out _)⟩
            rw [Hst.out]
            exact owns_kept HO.out (fun _ _ => rfl)
          case measure => simp [intOf]; omega
        · have heq := run_ne_ref x r
          unfold rv at heq
          rw [decide_eq_false he] at heq
          rw [if_neg he] at hstep
          have Hst := Lib.hid hstep
          have hlen : (wo (l.take k) r).length ≤ n := Nat.le_trans (List.length_filter_le _ _) (by rw [List.length_take]; omega)
          have Hlen := Lib.hid hlen
          clear he hstep hlen
          go_wp2
          go_quiet (fail)
          have hO2 := owns_kept (w1 := wr.drewN nq) HO.out (fun _ _ => rfl)
          have hB2 : Below W.heap.size W (wr.drewN nq) := G.bdrewN HBl.out _
          have d1 : (wr.drewN nq).cell? ⟨g, k * 2, none⟩ = some (.int .i64 x.kind) := c1
          have d2 : (wr.drewN nq).cell? ⟨g, k * 2 + 1, none⟩ = some (.string x.name) := c2
          obtain ⟨w3, hw3⟩ : ∃ w3, w3 = wr.drewN nq := ⟨_, rfl⟩
          rw [← hw3] at hO2 hB2 d1 d2
          rw [← hw3]
          have HO2 := Lib.hid hO2
          have HB2 := Lib.hid hB2
          clear hO2 hB2 hw3
          go_wp2_with (at_builtin; refine G.app_one rfl _ _ 28 30 rfl W.heap.size 2 24 _ Try.underlying28 info30 rfl (by decide) u5 (wo (l.take k) r).length ((wo (l.take k) r).flatMap rc) (rc x) rfl rfl rfl (rc_one x) HO2.out HB2.out.size (by have := Hlen.out; unfold maxLen; omega) (by have := Hlen.out; omega) ?_; intro v1 w4 hown4 hg4; have Ho4 := Lib.hid hown4; have Hg4 := Lib.hid hg4; clear hown4 hg4)
          go_roundw
          case rel =>
            refine ⟨k + 1, by omega, by go_num, Lib.hid ?_, Lib.hid ?_⟩
            · rw [Hst.out, List.length_append, List.flatMap_append]
              simpa using Ho4.out
            · exact G.below_grown HB2.out HB2.out.size HO2.out Hg4.out
          case measure => simp [intOf]; omega
      · have hkn : k = n := by omega
        have hfin : wo (l.take k) r = wo l r := by rw [List.take_of_length_le (by have := Hn.out; omega)]
        have Hf := Lib.hid hfin
        clear hfin
        subst hkn
        go_wp2
        go_ret
        refine ⟨_, rfl, ?_, G.bthen Hb.out HBl.out⟩
        rw [← Hf.out]
        exact owns_base_le HO.out Hb.out.size
end Go.Proofs.Ythmknlflgajnpaa
