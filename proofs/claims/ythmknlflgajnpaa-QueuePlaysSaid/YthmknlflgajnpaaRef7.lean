/- The walks of the reference's queue: Forget. -/
import Derived.Test.YthmknlflgajnpaaRef6
namespace Go.Proofs.Ythmknlflgajnpaa
open Go.RowKit
def fo (l : List Fl) (r : Ref) : List Fl := l.filter fun x => decide (x.ref ≠ r)
theorem fo_take {l : List Fl} {r : Ref} {k : Nat} (h : k < l.length) : fo (l.take (k + 1)) r = if l[k].ref = r then fo (l.take k) r else fo (l.take k) r ++ [l[k]] := by
  unfold fo
  rw [List.take_succ_eq_append_getElem h, List.filter_append]
  by_cases he : l[k].ref = r
  · simp [he]
  · simp [he]
theorem info70 : (Try.prog.info? 70).map (fun i => (i.zero, i.size, i.bytes)) = some (some (.agg #[.int .i64 0, .string ByteArray.empty, .int .i64 0]), 3, 32) := by kernel_rfl
def rforgetS (s : RS) (r : Ref) : RS := { s with fails := fo s.fails r }
set_option maxRecDepth 100000 in
set_option maxHeartbeats 2000000 in
theorem rforget_any (B rb : Nat) (s : RS) (v : RV) (r : Ref) (w : World) (h : RInv B rb s v w) (hl : ∀ i, s.n i ≤ 1000000) :
    Calls Try.prog 33 #[.pointer (some ⟨rb, 0, none⟩), rv r] w fun e w' => e = .returned (.tuple #[]) ∧ RStep B rb v w (rforgetS s r) w' := by
  obtain ⟨W, hW⟩ : ∃ W, W = w.alloc (.cells #[.int .i64 r.kind, .string r.name] 30) := ⟨_, rfl⟩
  have hbW : Below w.heap.size w W := by rw [hW]; exact bel_alloc _ _
  have A0 : RAt rb v W w.heap.size (refBox r) := by rw [hW]; exact RAt.new h _
  have R0 := (RRun.start h).below hbW
  have hI := R0.inv
  obtain ⟨hn, A, c, hv, hc⟩ := row3 (f := fc) (fun _ => rfl) (hI.rows 4)
  have hl4 := hl 4
  obtain ⟨n, hn'⟩ : ∃ n, n = s.n 4 := ⟨_, rfl⟩
  rw [← hn'] at hn hv hl4
  have c7 := hI.c7
  rw [hv] at c7
  have hlt := hI.lt
  have b0 := A0.k
  have b1 := A0.nm
  have hWs : W.heap.size = w.heap.size + 1 := by rw [hW]; simp
  have hst : (W.alloc (.cells #[] 70)).ownsRow W.heap.size 70 3 (.slice (some ⟨w.heap.size + 1, 0, none⟩) 0 0) 0 [] := ⟨rfl, .inr ⟨W.heap.size, 0, #[], by rw [hWs], Nat.le_refl _, G.heap_new _ _, Nat.le_refl _, by decide, rfl, rfl⟩⟩
  have hst2 : Below W.heap.size W (W.alloc (.cells #[] 70)) := bel_alloc _ _
  have HVv := Lib.hid hv
  have HN := Lib.hid hn
  have HC := Lib.hid hc
  have HR := Lib.hid R0
  have HI := Lib.hid hI
  have HA := Lib.hid A0
  have HW := Lib.hid hW
  have H1 := Lib.hid hst
  have H2 := Lib.hid hst2
  rw [hW] at c7 b0 b1 hlt
  unfold rv
  clear hW hbW A0 hI hn hc hv h hl hn' hst hst2 R0 hWs
  go_enter Try.func33, Try.ntmps33
  go_wp2
  go_loopw [4, 5] (fun u i wr => ∃ k : Nat, k ≤ n ∧ i = .int .i64 k ∧ Hid (Below W.heap.size W wr) ∧ Hid (wr.ownsRow W.heap.size 70 3 u (fo (s.fails.take k) r).length ((fo (s.fails.take k) r).flatMap fc))) (fun _ i _ => n - (intOf i).toNat)
  case atStart => exact ⟨0, by omega, by go_num, Lib.hid (by rw [← HW.out]; exact H2.out), Lib.hid (by rw [← HW.out]; exact H1.out)⟩
  case round =>
    obtain ⟨k, hk, rfl, HB, HO⟩ := hrel
    have d7 := G.cell_below HB.out HI.out.c7
    rw [HVv.out] at d7
    have d0 := (HA.out.below HB.out).k
    have d1 := (HA.out.below HB.out).nm
    by_cases hkn : k < n
    · have hka : k < s.fails.length := by have := HN.out; omega
      obtain ⟨g, hg, hcell⟩ := HC.out k hka
      subst hg
      have e0 := hcell wr HB.out 0 (by decide)
      have e1 := hcell wr HB.out 1 (by decide)
      have e2 := hcell wr HB.out 2 (by decide)
      have hstep := fo_take (r := r) hka
      obtain ⟨x, hx⟩ : ∃ x, x = s.fails[k] := ⟨_, rfl⟩
      rw [← hx] at e0 e1 e2 hstep
      replace e0 : wr.cell? ⟨g, k * 3, none⟩ = some (.int .i64 x.ref.kind) := e0
      replace e1 : wr.cell? ⟨g, k * 3 + 1, none⟩ = some (.string x.ref.name) := e1
      replace e2 : wr.cell? ⟨g, k * 3 + 2, none⟩ = some (.int .i64 x.n) := e2
      clear hx hcell
      by_cases he : x.ref = r
      · have heq := run_ne_ref x.ref r
        unfold rv at heq
        rw [decide_eq_true he] at heq
        rw [if_pos he] at hstep
        have Hst := Lib.hid hstep
        clear he hstep
        go_wp2
        go_quiet (fail)
        go_wp2
        go_roundw
        case rel =>
          refine ⟨k + 1, by omega, by go_num, Lib.hid (G.bdrewN HB.out _), Lib.hid ?_⟩
          rw [Hst.out]; exact owns_kept HO.out (fun _ _ => rfl)
        case measure => simp [intOf]; omega
      · have heq := run_ne_ref x.ref r
        unfold rv at heq
        rw [decide_eq_false he] at heq
        rw [if_neg he] at hstep
        have Hst := Lib.hid hstep
        have hlen : (fo (s.fails.take k) r).length ≤ n := Nat.le_trans (List.length_filter_le _ _) (by rw [List.length_take]; omega)
        have Hlen := Lib.hid hlen
        clear he hstep hlen
        go_wp2
        go_quiet (fail)
        have hO2 := owns_kept (w1 := wr.drewN nq) HO.out (fun _ _ => rfl)
        have hB2 : Below W.heap.size W (wr.drewN nq) := G.bdrewN HB.out _
        obtain ⟨w3, hw3⟩ : ∃ w3, w3 = wr.drewN nq := ⟨_, rfl⟩
        have f0 : w3.cell? ⟨g, k * 3, none⟩ = some (.int .i64 x.ref.kind) := by rw [hw3]; exact e0
        have f1 : w3.cell? ⟨g, k * 3 + 1, none⟩ = some (.string x.ref.name) := by rw [hw3]; exact e1
        have f2 : w3.cell? ⟨g, k * 3 + 2, none⟩ = some (.int .i64 x.n) := by rw [hw3]; exact e2
        have f7 : w3.cell? ⟨rb, 7, none⟩ = some (.slice (some ⟨g, 0, none⟩) n c) := by rw [hw3]; exact d7
        rw [← hw3] at hO2 hB2
        rw [← hw3]
        have HO2 := Lib.hid hO2
        have HB2 := Lib.hid hB2
        clear hO2 hB2 hw3 e0 e1 e2 d0 d1 d7
        go_wp2_with (at_builtin; refine G.app_one rfl _ _ 48 70 rfl W.heap.size 3 32 _ Try.underlying48 info70 rfl (by decide) u4 (fo (s.fails.take k) r).length ((fo (s.fails.take k) r).flatMap fc) (fc x) rfl rfl rfl (fc_one x) HO2.out HB2.out.size (by have := Hlen.out; unfold maxLen; omega) (by have := Hlen.out; omega) ?_; intro v1 w4 hown4 hg4; have Ho4 := Lib.hid hown4; have Hg4 := Lib.hid hg4; clear hown4 hg4)
        go_roundw
        case rel =>
          refine ⟨k + 1, by omega, by go_num, Lib.hid ?_, Lib.hid ?_⟩
          · exact G.below_grown HB2.out HB2.out.size HO2.out Hg4.out
          · rw [Hst.out, List.length_append, List.flatMap_append]
            simpa using Ho4.out
        case measure => simp [intOf]; omega
    · have hkn2 : k = n := by omega
      have hfin : fo (s.fails.take k) r = fo s.fails r := by rw [List.take_of_length_le (by have := HN.out; omega)]
      have hO2 := HO.out
      rw [hfin] at hO2
      obtain ⟨A9, c9, rfl⟩ := owns_shape hO2
      have q := HI.out.new 4 _ (rforgetS s r) HB.out hO2 ⟨rfl, rfl, rfl⟩ (fun i hi => by match i with | 0 => exact ⟨rfl, rfl⟩ | 1 => exact ⟨rfl, rfl⟩ | 2 => exact ⟨rfl, rfl⟩ | 3 => exact ⟨rfl, rfl⟩ | 4 => exact absurd rfl hi)
      have Q : Hid (RStep B rb v W (rforgetS s r) (wr.setCell ⟨rb, 7, none⟩ (.slice A9 (fo s.fails r).length c9))) := Lib.hid q
      have y7 : wr.frozen? ⟨rb, 7, none⟩ = false := (HI.out.below HB.out).free 7
      clear hfin hO2 q
      subst hkn2
      go_wp2
      refine bodyPost_end (results_none rfl _ _ _) rfl ⟨rfl, ?_⟩
      obtain ⟨v4, r4, _⟩ := HR.out.step Q.out
      exact r4.done
end Go.Proofs.Ythmknlflgajnpaa
