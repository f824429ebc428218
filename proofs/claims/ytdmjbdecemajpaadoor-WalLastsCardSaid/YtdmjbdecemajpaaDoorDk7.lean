/- The disk's Start: of each tail some stays. -/
import Derived.Test.YtdmjbdecemajpaaDoorDk6
import Derived.Test.YtdmjbdecemajpaaDoorDk5
import Derived.Deep.CutRange
import Derived.Deep.CutBlock
namespace Go.Proofs.YtdmjbdecemajpaaDoor.D
set_option linter.unusedVariables false
set_option linter.unusedSimpArgs false
open Go.RowKit
/-- a row of numbers that is none of the disk's -/
structure Pk (db m : Nat) (w : World) (A : Option Addr) (picks : List Int) : Prop where
  at_ : ∀ k (hk : k < picks.length), ∃ ad, A = some ad ∧ w.cell? (ad.add k) = some (.int .i64 picks[k])
  off : ∀ k, k < picks.length → ∀ ad, A = some ad → ¬ Foot db m ad.block
theorem add_block (ad : Addr) (k : Nat) : (ad.add k).block = ad.block := by unfold Addr.add; split <;> rfl
theorem cell_fr {F : Nat → Prop} {w w1 : World} (h : Fr F w w1) {a : Addr} {v : Value} (hf : ¬ F a.block) (hc : w.cell? a = some v) : w1.cell? a = some v := by
  have hl := World.block_lt_of_cell? w a hc
  have := h.block a.block hl hf
  unfold World.cell? at *
  rw [this]; exact hc
theorem Pk.fr {db m : Nat} {w w1 : World} {A : Option Addr} {picks : List Int} (h : Pk db m w A picks) (hf : Fr (Foot db m) w w1) : Pk db m w1 A picks :=
  ⟨fun k hk => by obtain ⟨ad, ha, hc⟩ := h.at_ k hk; exact ⟨ad, ha, cell_fr hf (by rw [add_block]; exact h.off k hk ad ha) hc⟩, h.off⟩
/-- sizes of all files -/
def BdF (M' : FM) : Prop := ∀ no, ((M.get M' no).getD fl0).safe ≤ ((M.get M' no).getD fl0).data.size ∧ ((M.get M' no).getD fl0).data.size ≤ 1048576
def pickN (picks : List Int) (k : Nat) : Nat := if picks.length = 0 then 0 else (max 0 (picks.getD (k % picks.length) 0)).toNat
theorem stay_pick (picks : List Int) (k : Nat) (f : Fl) : staySize picks k f = f.safe + pickN picks k % (f.data.size - f.safe + 1) := by
  unfold staySize pickN
  split
  · rw [Nat.zero_mod]
  · rfl
theorem stay_le (picks : List Int) (k : Nat) {f : Fl} (h : f.safe ≤ f.data.size) : staySize picks k f ≤ f.data.size := by
  unfold staySize
  split
  · omega
  · have := Nat.mod_lt (max 0 (picks.getD (k % picks.length) 0)).toNat (show 0 < f.data.size - f.safe + 1 by omega)
    omega
theorem BdF.put {M' : FM} (h : BdF M') (no : Int) (f : Fl) (hf : f.safe ≤ f.data.size ∧ f.data.size ≤ 1048576) : BdF (M.put M' no f) := fun a => by
  rw [M.get_put]
  split
  · exact hf
  · exact h a
theorem ext_size (d : ByteArray) (k : Nat) (h : k ≤ d.size) : (d.extract 0 k).size = k := by simp; omega
/-- the loop's relation -/
def SLoop (B db m : Nat) (s : DS) (picks : List Int) (A : Option Addr) (g : Nat) (o : Obj) (i k : Nat) (w0 wr : World) : Prop :=
  ∃ M', DInv B db m { s with files := M' } wr ∧ BdF M' ∧ staF picks (s.keys.drop i) M' k = staF picks s.keys s.files 0 ∧ Fr (Foot db m) w0 wr ∧ (0 < s.keys.length → K1 db m wr g o) ∧ Pk db m wr A picks
set_option maxRecDepth 100000 in
set_option maxHeartbeats 8000000 in
theorem start_any (B db m : Nat) (s : DS) (A : Option Addr) (c : Nat) (picks : List Int) (w : World) (h : DInv B db m s w) (hB : Bd s) (hn : M.Nodup s.files) (hr : ∀ p ∈ s.files, 1 ≤ p.1 ∧ p.1 ≤ 1000000)
    (hp : Pk db m w A picks) (hpl : picks.length ≤ 1000000) (hpc : picks.length ≤ c) :
    Calls Tryd.prog 44 #[.pointer (some ⟨db, 0, none⟩), .slice A picks.length c] w fun e w' => e = .returned (.int .i64 (staE s)) ∧ DStep B db m w (staS s picks) w' := by
  have c1 := h.c1
  have hlt := h.lt
  cases ho : s.off
  · rw [ho] at c1
    have Ha := Lib.hid (show staE s = 17 ∧ staS s picks = s by unfold staE staS; rw [ho]; exact ⟨rfl, rfl⟩)
    have HI := Lib.hid h
    clear h ho hp hpl hB hn hr hpc
    go_enter Tryd.func44, Tryd.ntmps44
    go_wp2
    go_ret
    rw [Ha.out.1, Ha.out.2]
    exact ⟨rfl, DStep.same HI.out (Below.refl _ _)⟩
  · rw [ho] at c1
    have CL := list_any B db m s w h hn hr hB.len
    have HI := Lib.hid h
    have HBF : Hid (BdF s.files) := Lib.hid (fun no => ⟨hB.safe no, hB.data no⟩)
    have HP := Lib.hid hp
    have hkl : s.keys.length ≤ 1000 := by
      show ((s.files.map (·.1)).mergeSort leI).length ≤ 1000
      rw [List.length_mergeSort, List.length_map]; exact hB.len
    obtain ⟨n, hn'⟩ : ∃ n, s.keys.length = n := ⟨_, rfl⟩
    rw [hn'] at CL hkl
    have CL2 : Calls Tryd.prog 52 #[.pointer (some ⟨db, 0, none⟩)] w fun e w' => ∃ A2 c2, e = .returned (.slice A2 n c2) ∧ w'.ownsRow w.heap.size 3 1 (.slice A2 n c2) n (s.keys.map kv) ∧ Below w.heap.size w w' :=
      CL.mono (fun e w' ⟨v, he, hown, hb⟩ => by
        obtain ⟨_, ⟨rfl, h0⟩ | ⟨g, cap, _, rfl, _⟩⟩ := id hown
        · exact ⟨none, 0, by rw [h0]; exact he, by rw [h0] at hown ⊢; exact hown, hb⟩
        · exact ⟨_, cap, he, hown, hb⟩)
    have HCL := Lib.hid CL2
    have HN := Lib.hid hn'
    have HO := Lib.hid ho
    clear CL CL2 h hB hn hr hp hn' ho
    go_enter Tryd.func44, Tryd.ntmps44
    go_upto_block 1 with (go_at_call 52; refine HCL.out.mono ?_; rintro e w1 ⟨A2, c2, rfl, hown, hb1⟩)
    have hI1 := HI.out.below hb1
    have hst : ∃ g o, Hid (SLoop B db m s picks A g o 0 0 w w1) ∧ Hid (∀ j (hj : j < s.keys.length), A2 = some ⟨g, 0, none⟩ ∧ n ≤ c2 ∧ ∀ V, K1 db m V g o → V.cell? ⟨g, j, none⟩ = some (.int .i64 s.keys[j])) := by
      have hfr : Fr (Foot db m) w w1 := Fr.of_below hb1
      rcases id hown with ⟨hl, ⟨h0, h1⟩ | ⟨g, cap, cur, h0, h1, h2, h3, h4, h5, h6⟩⟩
      · have h10 : s.keys.length = 0 := by rw [HN.out]; exact h1
        exact ⟨db, .cells #[] 0 (0, 0), Lib.hid ⟨s.files, hI1, HBF.out, by rw [List.drop_zero], hfr, fun hh => by omega, HP.out.fr hfr⟩, Lib.hid (fun j hj => by omega)⟩
      · cases h0
        have hkx : K1 db m w1 g (.cells cur 3 (0, 0)) := ⟨(Array.getElem?_eq_some_iff.1 h2).1, fun hf => by have := HI.out.foot_lt hf; omega, h2⟩
        refine ⟨g, _, Lib.hid ⟨s.files, hI1, HBF.out, by rw [List.drop_zero], hfr, fun _ => hkx, HP.out.fr hfr⟩, Lib.hid (fun j hj => ⟨rfl, h3, fun V hV => ?_⟩)⟩
        have hc : (s.keys.map kv)[j]? = some (.int .i64 s.keys[j]) := by rw [List.getElem?_map, List.getElem?_eq_getElem hj]; rfl
        rw [← h6, List.getElem?_take_of_lt (by have := HN.out; omega), Array.getElem?_toList] at hc
        simp only [World.cell?, hV.is]
        exact hc
    obtain ⟨g, o, HS0, HK⟩ := hst
    clear hown hI1 hb1 c1 hlt
    go_wp2_with (fail)
    go_loopw [5, 24] (fun kv iv wr => ∃ i k : Nat, iv = .int .i64 i ∧ kv = .int .i64 k ∧ i ≤ n ∧ k ≤ i ∧ Hid (SLoop B db m s picks A g o i k w wr)) (fun _ iv _ => n - (intOf iv).toNat)
    case atStart => exact ⟨0, 0, by go_num, by go_num, by omega, by omega, HS0⟩
    case round =>
      obtain ⟨i, k, rfl, rfl, hi, hki, HS⟩ := hrel
      obtain ⟨M', hI, hbf, hst, hfr, hk1, hpk⟩ := HS.out
      have hlt := hI.lt
      have c0 := hI.c0
      by_cases hin : i < n
      · have hik : i < s.keys.length := by have := HN.out; omega
        obtain ⟨hA2, hnc, hcell⟩ := HK.out i hik
        subst hA2
        have hk1' := hk1 (by omega)
        have e0 := hcell wr hk1'
        obtain ⟨no, hno⟩ : ∃ no, s.keys[i] = no := ⟨_, rfl⟩
        rw [hno] at e0
        obtain ⟨f, hf⟩ : ∃ f, (M.get M' no).getD fl0 = f := ⟨_, rfl⟩
        have lk := look hI.map no hf 0
        rw [show wr.drewN 0 = wr from rfl] at lk
        obtain ⟨hs1, hs2⟩ := hbf no
        rw [hf] at hs1 hs2
        have hg : g < wr.heap.size := hk1'.lt
        have HIw := Lib.hid hI
        have HBf := Lib.hid hbf
        have HSt := Lib.hid hst
        have HFr := Lib.hid hfr
        have HK1 := Lib.hid hk1'
        have HPk := Lib.hid hpk
        have HNo := Lib.hid hno
        have HFm := Lib.hid hf
        have HIK := Lib.hid hik
        obtain ⟨T, hT⟩ : ∃ T : Nat, (f.data.size : Int) - (f.safe : Int) = (T : Int) := ⟨f.data.size - f.safe, by omega⟩
        have HT := Lib.hid (show T = f.data.size - f.safe by omega)
        clear hI hbf hst hfr hk1 hk1' hpk hno hf hcell
        by_cases h0 : T = 0
        · subst h0
          have HS2 : Hid (SLoop B db m s picks A g o (i + 1) k w (wr.alloc (.cells #[.string f.data, .int .i64 f.safe] 95))) := Lib.hid (by
            have hb := bel_allocT wr (.cells #[.string f.data, .int .i64 f.safe] 95)
            refine ⟨M', HIw.out.below hb, HBf.out, ?_, HFr.out.trans (Fr.of_below (F := Foot db m) hb) (fun _ hj => .inl hj), fun _ => HK1.out.below hb, HPk.out.fr (Fr.of_below hb)⟩
            rw [← HSt.out, List.drop_eq_getElem_cons HIK.out, HNo.out, staF, HFm.out, if_pos (by have := HT.out; omega)])
          go_wp2
          go_roundw
          case rel => exact ⟨i + 1, k, by go_num, rfl, by omega, by omega, HS2⟩
          case measure => simp [intOf]; omega
        · have d0 : ((T : Int) == 0) = false := by simpa using h0
          have HT0 := Lib.hid h0
          clear h0
          go_upto_if 44 with (fail)
          obtain ⟨W, hW⟩ : ∃ W, W = wr.alloc (.cells #[.string f.data, .int .i64 f.safe] 95) := ⟨_, rfl⟩
          have hbW : Below wr.heap.size wr W := by rw [hW]; exact bel_allocT _ _
          have HKx : Hid (K1 db m W wr.heap.size (.cells #[.string f.data, .int .i64 f.safe] 95 (0, 0))) := Lib.hid (by rw [hW]; exact K1.new HIw.out _)
          rw [← hW]
          have HbW := Lib.hid hbW
          have HPW := Lib.hid (HPk.out.fr (Fr.of_below (F := Foot db m) hbW))
          obtain ⟨xb, hxb⟩ : ∃ xb, xb = wr.heap.size := ⟨_, rfl⟩
          rw [← hxb] at HKx
          rw [← hxb]
          clear hW hbW hxb lk c0 hlt hg e0
          go_cut [5, 10, 24] from 24 to 73 (fun v5 v v24 w' => ∃ p : Nat, v5 = .int .i64 k ∧ v24 = .int .i64 i ∧ v = .int .i64 p ∧ Hid (p = pickN picks k) ∧ W = w')
          case first =>
            by_cases hnp : picks.length = 0
            · have d1 : decide (0 < picks.length) = false := decide_eq_false (by omega)
              have HPp : Hid (0 = pickN picks k) := Lib.hid (by unfold pickN; rw [if_pos hnp])
              have hnp0 : picks.length ≤ 0 := by omega
              clear hnp
              go_wp2
              go_meet
              case rel => exact ⟨0, rfl, rfl, by go_num, HPp, rfl⟩
            · have hkp : k % picks.length < picks.length := Nat.mod_lt _ (by omega)
              obtain ⟨ad, hA, hcp⟩ := HPW.out.at_ (k % picks.length) hkp
              have had : Hid (picks.getD (k % picks.length) 0 = picks[k % picks.length]) := Lib.hid (by rw [List.getD_eq_getElem?_getD, List.getElem?_eq_getElem hkp]; rfl)
              have d1 : decide (0 < picks.length) = true := decide_eq_true (by omega)
              have HPp : ∀ q : Int, max 0 (picks.getD (k % picks.length) 0) = q → Hid (q.toNat = pickN picks k) := fun q hq => Lib.hid (by unfold pickN; rw [if_neg hnp, hq])
              have hnp1 : 0 < picks.length := by omega
              have q1 : 0 ≤ (k : Int) % (picks.length : Int) := Int.emod_nonneg _ (by omega)
              have q2 : (k : Int) % (picks.length : Int) < (picks.length : Int) := Int.emod_lt_of_pos _ (by omega)
              have q3 : ((k : Int) % (picks.length : Int)).toNat = k % picks.length := by
                rw [show (k : Int) % (picks.length : Int) = ((k % picks.length : Nat) : Int) by simp]; rfl
              subst hA
              obtain ⟨p0, hp0⟩ : ∃ p0, picks[k % picks.length] = p0 := ⟨_, rfl⟩
              rw [hp0] at hcp had
              rw [had.out] at HPp
              have HQ := HPp (max 0 p0) (by omega)
              clear HPp hp0 hnp had HPW HPk HP
              go_wp2
              go_meet
              case rel => exact ⟨(max 0 p0).toNat, rfl, rfl, by rw [show (((max 0 p0).toNat : Nat) : Int) = max 0 p0 by omega], HQ, rfl⟩
          case rest =>
            obtain ⟨p, rfl, rfl, rfl, HPp, rfl⟩ := hcut
            have kx := HKx.out.is
            have hIW := HIw.out.below HbW.out
            have x0 : W.cell? ⟨xb, 0, none⟩ = some (.string f.data) := by simp [World.cell?, kx]
            have x1 : W.cell? ⟨xb, 1, none⟩ = some (.int .i64 f.safe) := by simp [World.cell?, kx]
            have lx : xb < W.heap.size := HKx.out.lt
            have hltW := hIW.lt
            have c0 := hIW.c0
            clear kx hIW
            go_wp2
            go_quiet (fail)
            obtain ⟨S, hS⟩ : ∃ S, S = f.safe + p % (T + 1) := ⟨_, rfl⟩
            have hSle : S ≤ f.data.size := by
              have := Nat.mod_lt p (show 0 < T + 1 by omega)
              have := HT.out
              omega
            have hSw : wrap64 ((f.safe : Int) + (p : Int) % ((T : Int) + 1)) = (S : Int) := by
              rw [show (p : Int) % ((T : Int) + 1) = ((p % (T + 1) : Nat) : Int) by push_cast; rfl, show (f.safe : Int) + ((p % (T + 1) : Nat) : Int) = (S : Int) by omega]
              unfold wrap64; omega
            have hSS : Hid (S = staySize picks k f) := Lib.hid (by rw [stay_pick, hS, ← HPp.out, HT.out])
            rw [hSw]
            clear hSw hS
            generalize hW3 : W.drewN _ = W3
            have hb3 : Below wr.heap.size wr W3 := by rw [← hW3]; exact G.bdrewN HbW.out _
            have y0 : W3.cell? ⟨xb, 0, none⟩ = some (.string f.data) := by rw [← hW3]; exact x0
            have ly : xb < W3.heap.size := by rw [← hW3]; exact lx
            have hI3 := HIw.out.below hb3
            have d0' := hI3.c0
            have hlt3 := hI3.lt
            obtain ⟨oo, ho1, ho2⟩ := mput hI3 no ⟨f.data.extract 0 S, S⟩
            have mu := mu_drew ho1
            have HO2 := Lib.hid (ho2 1)
            have HF2 := Lib.hid ((Fr.of_below (F := Foot db m) hb3).trans (fr_upd (F := Foot db m) W3 1 m oo (.inr rfl)) (fun _ hj => .inl hj))
            clear hW3 hb3 hI3 ho1 ho2 x0 x1 lx c0 hltW
            go_upto_region 16 with (fail)
            go_region
            have HS2 : Hid (SLoop B db m s picks A g o (i + 1) (k + 1) w (M.upd W3.drew m oo)) := Lib.hid (by
              refine ⟨M.put M' no ⟨f.data.extract 0 S, S⟩, HO2.out, HBf.out.put no _ ⟨by rw [ext_size _ _ hSle]; exact Nat.le_refl _, by rw [ext_size _ _ hSle]; omega⟩, ?_, HFr.out.trans HF2.out (fun _ hj => .inl hj), fun _ => HK1.out.step ⟨HO2.out, HF2.out⟩, HPk.out.fr HF2.out⟩
              rw [← HSt.out, List.drop_eq_getElem_cons HIK.out, HNo.out, staF, HFm.out, if_neg (by have := HT.out; have := HT0.out; omega), ← hSS.out])
            clear mu y0 ly d0' hlt3
            go_wp2
            go_roundw
            case rel => exact ⟨i + 1, k + 1, by go_num, by go_num, by omega, by omega, HS2⟩
            case measure => simp [intOf]; omega
      · have hin' : i = n := by omega
        have hstep : Hid (DStep B db m w (staS s picks) (wr.setCell ⟨db, 1, none⟩ (.bool false))) := Lib.hid (by
          rw [hin', ← HN.out, List.drop_length, staF] at hst
          have e : staS s picks = { s with files := M', off := false } := by unfold staS; rw [HO.out, if_pos rfl, ← hst]
          rw [e]
          exact ⟨hI.set (s' := { s with files := M', off := false }) 1 (.bool false) (by simp [dcells]) rfl, hfr.trans (fr_set (F := Foot db m) wr db 1 (.bool false) (.inl rfl)) (fun _ hj => .inl hj)⟩)
        have HE : Hid (staE s = 0) := Lib.hid (by unfold staE; rw [HO.out]; rfl)
        have c1 := hI.c1
        have f1 := hI.free 1
        subst hin'
        clear hI hbf hst hfr hk1 hpk c0
        go_wp2
        go_ret
        rw [HE.out]
        exact ⟨rfl, hstep.out⟩
end Go.Proofs.YtdmjbdecemajpaaDoor.D
