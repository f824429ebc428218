/- Rows of names that rise: where a name stands, and a row without a name. -/
import Derived.Test.YtmbmnldheilffaaMi5
namespace Go.Proofs.Ytmbmnldheilffaa
set_option linter.unusedVariables false
set_option linter.unusedSimpArgs false
open Go.RowKit Go.Sort
def Rise (l : List ByteArray) : Prop := l.Pairwise fun a b => slt a b = true
theorem slt_asymm {a b : ByteArray} (h : slt a b = true) : slt b a = false := by
  cases g : slt b a
  · rfl
  · have := slt_trans h g; rw [slt_irrefl] at this; cases this
/-- of a list that rises: those ahead of a name, then the others -/
theorem rise_split : ∀ {l : List ByteArray}, Rise l → ∀ x, l = l.filter (fun y => slt y x) ++ l.filter (fun y => !slt y x)
  | [], _, x => rfl
  | a :: l, h, x => by
    obtain ⟨h1, h2⟩ := List.pairwise_cons.1 h
    have ih := rise_split h2 x
    cases ha : slt a x
    · have e1 : l.filter (fun y => slt y x) = [] := by
        rw [List.filter_eq_nil_iff]
        intro b hb hbx
        have := slt_trans (h1 b hb) hbx
        rw [this] at ha; cases ha
      rw [e1, List.nil_append] at ih
      simp only [List.filter_cons, ha, Bool.false_eq_true, if_false, Bool.not_false, if_true, e1, List.nil_append]
      rw [← ih]
    · simp only [List.filter_cons, ha, if_true, Bool.not_true, Bool.false_eq_true, if_false, List.cons_append]
      rw [← ih]
/-- how many are ahead of a name -/
def posN (l : List ByteArray) (x : ByteArray) : Nat := (l.filter fun y => slt y x).length
theorem posN_le (l : List ByteArray) (x : ByteArray) : posN l x ≤ l.length := List.length_filter_le _ _
theorem rise_take {l : List ByteArray} (h : Rise l) (x : ByteArray) : l.take (posN l x) = l.filter fun y => slt y x := by
  have := rise_split h x
  conv => lhs; arg 2; rw [this]
  exact List.take_left
theorem rise_drop {l : List ByteArray} (h : Rise l) (x : ByteArray) (hx : x ∉ l) : l.drop (posN l x) = l.filter fun y => slt x y := by
  have h1 := rise_split h x
  have h2 : l.filter (fun y => !slt y x) = l.filter fun y => slt x y := by
    refine List.filter_congr fun y hy => ?_
    rcases slt_total y x with g | g | g
    · rw [g, slt_asymm g]; rfl
    · rw [g] at hy; exact absurd hy hx
    · rw [g, slt_asymm g]; rfl
  rw [← h2]
  conv => lhs; arg 2; rw [h1]
  exact List.drop_left
theorem rise_ins {l : List ByteArray} (h : Rise l) (x : ByteArray) (hx : x ∉ l) : l.take (posN l x) ++ x :: l.drop (posN l x) = insN x l := by
  rw [rise_take h, rise_drop h x hx]; rfl
/-- slices.BinarySearch on a row that rises -/
theorem search_own (B : Nat) (l : List ByteArray) (A : Option Addr) (c : Nat) (x : ByteArray) (w : World) (h : w.ownsRow B 9 1 (.slice A l.length c) l.length (l.flatMap cS)) (hl : l.length ≤ 1000000) (hr : Rise l) :
    Calls Try.prog 49 #[.slice A l.length c, .string x] w fun e w' => (∃ b, e = .returned (.tuple #[.int .i64 (posN l x : Nat), .bool b])) ∧ ∃ q, w' = w.drewN q := by
  rcases Nat.eq_zero_or_pos l.length with h0 | h0
  · obtain rfl := List.eq_nil_of_length_eq_zero h0
    refine (Any2.slices_BinarySearch_string_empty Try.searchS A c x w).mono ?_
    rintro e w' ⟨rfl, rfl⟩
    exact ⟨⟨_, rfl⟩, 0, rfl⟩
  · obtain ⟨g, cap, hv, h1, h2, hB, cur, hh, h3, h4⟩ := own_block h h0
    injection hv with hv1 _ hv2
    subst hv1; subst hv2
    have hcell : ∀ j, j < l.length → w.cell? ⟨g, 0 + j, none⟩ = some (.string (l.getD j x)) := fun j hj => by
      rw [Nat.zero_add]
      simp only [World.cell?, hh]
      rw [← Array.getElem?_toList, ← (show (cur.toList.take (l.length * 1))[j]? = cur.toList[j]? by rw [List.getElem?_take, if_pos (by omega)]), h4, cS_map]
      simp [hj]
    refine (Any2.slices_BinarySearch_string Try.searchS g 0 l.length c (fun t => l.getD t x) x w (by omega) hcell).mono ?_
    rintro e w' ⟨rfl, hq⟩
    have hk : Lib.bsGo (fun t => Op.bytesLess (l.getD t x).toList x.toList) l.length 0 l.length = posN l x := by
      refine Lib.bsGo_spec _ (posN l x) (fun t ht => ?_) (fun t ht => ?_) _ _ _ (by omega) (Nat.zero_le _) (posN_le l x)
      · have hlt : t < l.length := Nat.lt_of_lt_of_le ht (posN_le l x)
        have hm : l[t] ∈ l.take (posN l x) := by
          rw [List.mem_take_iff_getElem]
          exact ⟨t, by omega, rfl⟩
        rw [rise_take hr] at hm
        have := (List.mem_filter.1 hm).2
        simpa [slt, List.getD_eq_getElem?_getD, hlt] using this
      · by_cases hlt : t < l.length
        · have hm : l[t] ∈ l.drop (posN l x) := by
            rw [List.mem_drop_iff_getElem]
            exact ⟨t - posN l x, by omega, by congr 1; omega⟩
          have hs := rise_split hr x
          have hd : l.drop (posN l x) = l.filter fun y => !slt y x := by
            conv => lhs; arg 2; rw [hs]
            exact List.drop_left
          rw [hd] at hm
          have := (List.mem_filter.1 hm).2
          simpa [slt, List.getD_eq_getElem?_getD, hlt] using this
        · have : l.getD t x = x := by simp [List.getD_eq_getElem?_getD, List.getElem?_eq_none (show l.length ≤ t by omega)]
          simp only [this]
          exact slt_irrefl x
    rw [hk]
    exact ⟨⟨_, rfl⟩, hq⟩
/-- is it the object's name? -/
theorem isname_any (b : List UInt8) (xb : Nat) (nm : ByteArray) (W : World) (hx : W.cell? ⟨xb, 1, none⟩ = some (.string nm)) :
    Calls Try.prog 48 #[encStr b, .pointer (some ⟨xb, 0, none⟩)] W fun e w' => e = .returned (.bool (decide (uS b = nm))) ∧ w' = W := by
  have he : encStr b = .string (uS b) := rfl
  have hb := str_beq (uS b) nm
  rw [he]
  generalize uS b = u at hb ⊢
  go_enter Try.func48, Try.ntmps48
  go_wp2
  go_ret
  exact ⟨by rw [← hb]; rfl, rfl⟩
/-- slices.DeleteFunc: a row without a name -/
theorem delete_own (B : Nat) (l : List ByteArray) (A : Option Addr) (c xb : Nat) (nm : ByteArray) (w : World) (h : w.ownsRow B 9 1 (.slice A l.length c) l.length (l.flatMap cS)) (hl : l.length ≤ 1000000) (h0 : 0 < l.length) (cs : Array Value) (t : TypeId) (ht : t ≠ 9)
    (hx : w.heap[xb]? = some (.cells cs t (0, 0))) (hn : cs[1]? = some (.string nm)) :
    Calls Try.prog 47 #[.slice A l.length c, .func (.func 48) #[] #[.pointer (some ⟨xb, 0, none⟩)]] w fun e w' =>
      e = .returned (.slice A (l.filter fun n => !decide (n = nm)).length c) ∧ w'.ownsRow B 9 1 (.slice A (l.filter fun n => !decide (n = nm)).length c) (l.filter fun n => !decide (n = nm)).length ((l.filter fun n => !decide (n = nm)).flatMap cS) ∧ w.grownBy w' (Value.slice A l.length c).ownBlock := by
  obtain ⟨g, cap, hv, h1, h2, hB, cur, hh, h3, h4⟩ := own_block h h0
  injection hv with hv1 _ hv2
  subst hv1; subst hv2
  have hgx : xb ≠ g := cells_not hx hh ht
  have hcx : ∀ W : World, W.heap[xb]? = w.heap[xb]? → W.cell? ⟨xb, 1, none⟩ = some (.string nm) := fun W hW => by simp [World.cell?, hW, hx, hn]
  have hxl : xb < w.heap.size := (Array.getElem?_eq_some_iff.1 hx).1
  have hH : Holds encStr w g 0 (l.map BL).toArray := holds_of_block hh (by rw [List.length_map, ← cS_enc, ← h4, Nat.mul_one])
  have hp : PredAt Try.prog 48 #[.pointer (some ⟨xb, 0, none⟩)] encStr (fun b => decide (uS b = nm)) w := fun W x hb =>
    (isname_any x xb nm W (hcx W (hb.block xb hxl))).mono fun e w' ⟨he, hw⟩ => ⟨he, 0, hw⟩
  have hpo : PredOver Try.prog 48 #[.pointer (some ⟨xb, 0, none⟩)] encStr (fun b => decide (uS b = nm)) g 0 (l.map BL).toArray.size w := fun n os dk x _ => by
    refine (isname_any x xb nm _ (hcx _ ?_)).mono fun e w' ⟨he, hw⟩ => ⟨he, 0, hw⟩
    exact (grownBy_sorted (w := w) (g := g) (n := n) (os := os) dk).block xb hxl (fun e => hgx (by injection e))
  have hc := AnyE.slices_DeleteFunc Try.delS encStr (fun _ => rfl) (fun b => decide (uS b = nm)) 48 #[.pointer (some ⟨xb, 0, none⟩)] (enters_of Try.func48 (by kernel_rfl) rfl) [] (fun w => Try.zeroValue9 w) g 0 c (l.map BL).toArray w hp hpo hH (by simp; omega) (by simp; omega)
  have hf : ((l.map BL).toArray.toList.filter fun x => !decide (uS x = nm)) = (l.filter fun n => !decide (n = nm)).map BL := by
    rw [List.toList_toArray, List.filter_map]
    congr 1
  rw [hf] at hc
  simp only [List.size_toArray, List.length_map] at hc
  refine hc.mono ?_
  rintro e w' ⟨rfl, q, rfl⟩
  have hle := List.length_filter_le (fun n => !decide (n = nm)) l
  obtain ⟨o1, o2⟩ := own_put (q := q) (m := (l.filter fun n => !decide (n = nm)).length) (os := #[]) h ((l.filter fun n => !decide (n = nm)).map BL ++ List.replicate (l.length - (l.filter fun n => !decide (n = nm)).length) []) (by simp; omega) (by simp)
  have hg : ∀ W : World, grow W #[] = W := fun W => by unfold grow; simp
  rw [hg] at o1 o2
  refine ⟨rfl, ?_, o2⟩
  have ht : (((l.filter fun n => !decide (n = nm)).map BL ++ List.replicate (l.length - (l.filter fun n => !decide (n = nm)).length) []).take (l.filter fun n => !decide (n = nm)).length) = (l.filter fun n => !decide (n = nm)).map BL := by
    rw [List.take_append_of_le_length (by simp), List.take_of_length_le (by simp)]
  rw [ht] at o1
  rw [cS_enc]
  exact o1
end Go.Proofs.Ytmbmnldheilffaa
