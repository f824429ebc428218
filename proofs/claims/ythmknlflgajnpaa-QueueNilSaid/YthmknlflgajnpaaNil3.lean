/- The walk of QueueNil. -/
import Derived.Test.YthmknlflgajnpaaNil2
namespace Go.Proofs.Ythmknlflgajnpaa
open Go.RowKit
set_option maxRecDepth 100000 in
set_option maxHeartbeats 4000000 in
theorem nil_walk (x : Act7) (w : World) :
    Calls Try.prog 6 #[.agg #[.int .i64 x.kind, .int .i64 x.ref.kind, .string x.ref.name, .int .i64 x.n]] w fun e w' => e = .returned (.bool true) ∧ Below w.heap.size w w' := by
  have hb0 := bel_alloc w (actBox x)
  have h0 : (w.alloc (actBox x)).heap[w.heap.size]? = some (actBox x) := G.heap_new _ _
  have hl0 : w.heap.size < (w.alloc (actBox x)).heap.size := by simp
  have cells : ∀ (V : World), V.heap[w.heap.size]? = some (actBox x) → V.cell? ⟨w.heap.size, 0, none⟩ = some (.int .i64 x.kind) ∧ V.cell? ⟨w.heap.size, 1, none⟩ = some (.int .i64 x.ref.kind) ∧ V.cell? ⟨w.heap.size, 2, none⟩ = some (.string x.ref.name) ∧ V.cell? ⟨w.heap.size, 3, none⟩ = some (.int .i64 x.n) := fun V hV => by
    refine ⟨?_, ?_, ?_, ?_⟩ <;> simp [World.cell?, hV]
  have HC := Lib.hid cells
  have HB0 := Lib.hid hb0
  have H0 := Lib.hid h0
  have HL := Lib.hid hl0
  clear hb0 h0 hl0 cells
  go_enter Try.func6, Try.ntmps6
  go_wp2_with (fail)
  refine (awake_any _).mono ?_
  rintro e w1 ⟨rfl, hb1⟩
  have hs : w1.heap[w.heap.size]? = some (actBox x) := (hb1.block _ HL.out).trans H0.out
  have hl1 : w.heap.size < w1.heap.size := Nat.lt_of_lt_of_le HL.out hb1.size
  have HB1 := Lib.hid (G.bthen HB0.out hb1)
  have H1 := Lib.hid hs
  have HL1 := Lib.hid hl1
  have hi := r0_new 1 1 w1
  have hn : (w1.alloc (.cells #[.int .i64 1, .int .i64 1, .int .i64 0, .slice none 0 0, .slice none 0 0, .slice none 0 0, .slice none 0 0, .slice none 0 0] 50)).heap[w.heap.size]? = some (actBox x) := ((bel_alloc w1 _).block _ hl1).trans hs
  obtain ⟨b0, b1, b2, b3⟩ := HC.out _ hn
  have HI := Lib.hid hi
  have HN := Lib.hid hn
  clear hb1 hs hl1 hi hn
  go_wp2_with (fail)
  refine (does_nil w1.heap.size w1.heap.size x _ HI.out).mono ?_
  rintro e w2 ⟨⟨bv, rfl⟩, hb2⟩
  have h2 : w2.heap[w.heap.size]? = some (actBox x) := (hb2.block _ HL1.out).trans HN.out
  have HB2 := Lib.hid (show Below w.heap.size w w2 from HB1.out.trans ⟨hb2.os, hb2.tape, hb2.output, Nat.le_trans (bel_alloc w1 _).size hb2.size, fun i hi => (hb2.block i (Nat.lt_trans hi HL1.out)).trans ((bel_alloc w1 _).block i (Nat.lt_trans hi HL1.out))⟩)
  have H2 := Lib.hid h2
  clear hb2 h2 b0 b1 b2 b3
  go_wp2_with (fail)
  refine (get_nil _).mono ?_
  rintro e w3 ⟨rfl, hb3⟩
  have hb3' : Below w2.heap.size w2 (w3.alloc (.cells #[.int .i64 0, .string ⟨#[]⟩] 30)) := G.bthen hb3 (bel_alloc _ _)
  have HB3 := Lib.hid (G.bthen HB2.out hb3')
  have hl2 : w.heap.size < w2.heap.size := (Array.getElem?_eq_some_iff.1 H2.out).1
  have H3 := Lib.hid ((hb3'.block _ hl2).trans H2.out)
  clear hb3 hb3' hl2
  go_wp2_with (fail)
  refine (len_nil _).mono ?_
  rintro e w4 ⟨rfl, hb4⟩
  have HB4 := Lib.hid (G.bthen HB3.out hb4)
  have H4 := Lib.hid ((hb4.block _ (Array.getElem?_eq_some_iff.1 H3.out).1).trans H3.out)
  clear hb4
  go_wp2_with (fail)
  refine (line_nil _).mono ?_
  rintro e w5 ⟨rfl, hb5⟩
  have HB5 := Lib.hid (G.bthen HB4.out hb5)
  have H5 := Lib.hid ((hb5.block _ (Array.getElem?_eq_some_iff.1 H4.out).1).trans H4.out)
  clear hb5
  go_wp2_with (fail)
  refine (now_nil _).mono ?_
  rintro e w6 ⟨rfl, hb6⟩
  have HB6 := Lib.hid (G.bthen HB5.out hb6)
  have H6 := Lib.hid ((hb6.block _ (Array.getElem?_eq_some_iff.1 H5.out).1).trans H5.out)
  clear hb6
  go_wp2_with (fail)
  refine (waiting_nil _).mono ?_
  rintro e w7 ⟨rfl, hb7⟩
  have HB7 := Lib.hid (G.bthen HB6.out hb7)
  have H7 := Lib.hid ((hb7.block _ (Array.getElem?_eq_some_iff.1 H6.out).1).trans H6.out)
  clear hb7
  obtain ⟨c80, c81, c82, c83⟩ := HC.out _ H7.out
  go_wp2_with (fail)
  refine (busy_nil x.ref _).mono ?_
  rintro e w8 ⟨rfl, hb8⟩
  have HB8 := Lib.hid (G.bthen HB7.out hb8)
  have H8 := Lib.hid ((hb8.block _ (Array.getElem?_eq_some_iff.1 H7.out).1).trans H7.out)
  clear hb8
  clear c80 c81 c82 c83
  obtain ⟨c90, c91, c92, c93⟩ := HC.out _ H8.out
  go_wp2_with (fail)
  refine (fails_nil x.ref _).mono ?_
  rintro e w9 ⟨rfl, hb9⟩
  have HB9 := Lib.hid (G.bthen HB8.out hb9)
  have H9 := Lib.hid ((hb9.block _ (Array.getElem?_eq_some_iff.1 H8.out).1).trans H8.out)
  clear hb9
  clear c90 c91 c92 c93
  go_wp2
  go_ret
  exact ⟨rfl, HB9.out⟩
end Go.Proofs.Ythmknlflgajnpaa
