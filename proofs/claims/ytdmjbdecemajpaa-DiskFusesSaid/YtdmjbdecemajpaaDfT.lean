/- The reference's Play answers as the disk does, while the disk is on; the fuse. -/
import Derived.Test.YtdmjbdecemajpaaDfS
namespace Go.Proofs.Ytdmjbdecemajpaa.D
set_option linter.unusedVariables false
set_option linter.unusedSimpArgs false
open Go.RowKit
theorem step_on {s : DS} (h : s.fuse ≠ 1) : stepE s = 0 ∧ (stepS s).off = s.off ∧ (stepS s).steps = s.steps + 1 ∧ (stepS s).fuse = max 0 (s.fuse - 1) := by
  unfold stepE stepS
  rw [if_neg h, if_neg h]
  exact ⟨rfl, rfl, rfl, rfl⟩
theorem step_off {s : DS} (h : s.fuse = 1) : stepE s = 6 ∧ (stepS s).off = true ∧ (stepS s).steps = s.steps + 1 := by
  unfold stepE stepS
  rw [if_pos h, if_pos h]
  exact ⟨rfl, rfl, rfl⟩
theorem step_put (s : DS) (no : Int) (f : Fl) : (stepS (s.put no f)).off = (stepS s).off ∧ (stepS (s.put no f)).fuse = (stepS s).fuse ∧ (stepS (s.put no f)).steps = (stepS s).steps := by
  by_cases h : s.fuse = 1
  · have h' : (s.put no f).fuse = 1 := h
    unfold stepS
    rw [if_pos h, if_pos h']
    exact ⟨rfl, rfl, rfl⟩
  · have h' : ¬ (s.put no f).fuse = 1 := h
    unfold stepS
    rw [if_neg h, if_neg h']
    exact ⟨rfl, rfl, rfl⟩
/-- a call of kind 4 or less stays, or takes one step -/
theorem does_or (s : DS) (x : Pl) (hk : x.kind ≤ 4) : doesS s x = s ∨ (doesE s x = stepE s ∧ (doesS s x).off = (stepS s).off ∧ (doesS s x).fuse = (stepS s).fuse ∧ (doesS s x).steps = (stepS s).steps) := by
  by_cases k1 : x.kind = 1
  · simp only [doesS, doesE, if_pos k1]
    unfold appS appE
    split
    · exact .inl rfl
    split
    · exact .inl rfl
    split
    · exact .inl rfl
    · exact .inr ⟨rfl, step_put _ _ _⟩
  by_cases k2 : x.kind = 2
  · simp only [doesS, doesE, if_neg k1, if_pos k2]
    unfold synS synE
    split
    · exact .inl rfl
    split
    · exact .inr ⟨rfl, rfl, rfl, rfl⟩
    · exact .inr ⟨rfl, rfl, rfl, rfl⟩
  by_cases k3 : x.kind = 3
  · simp only [doesS, doesE, if_neg k1, if_neg k2, if_pos k3]
    unfold triS triE
    split
    · exact .inl rfl
    split
    · exact .inl rfl
    split
    · exact .inr ⟨rfl, rfl, rfl, rfl⟩
    · exact .inr ⟨rfl, rfl, rfl, rfl⟩
  by_cases k4 : x.kind = 4
  · simp only [doesS, doesE, if_neg k1, if_neg k2, if_neg k3, if_pos k4]
    unfold remS remE synE
    split
    · exact .inl rfl
    split
    · exact .inr ⟨rfl, rfl, rfl, rfl⟩
    · exact .inr ⟨rfl, rfl, rfl, rfl⟩
  · have k5 : ¬ x.kind = 5 := by omega
    have k6 : ¬ x.kind = 6 := by omega
    have k7 : ¬ x.kind = 7 := by omega
    simp only [doesS, if_neg k1, if_neg k2, if_neg k3, if_neg k4, if_neg k5, if_neg k6, if_neg k7]
    exact .inl trivial
theorem fuse_law {s : DS} (x : Pl) (n : Int) (hoff : s.off = false) (hf : 1 ≤ s.fuse) (hn : s.steps + s.fuse = n) (hk : x.kind ≤ 4) :
    ((doesS s x).off = false ∧ 1 ≤ (doesS s x).fuse ∧ (doesS s x).steps + (doesS s x).fuse = n) ∨ ((doesS s x).off = true ∧ doesE s x = 6 ∧ (doesS s x).steps = n) := by
  rcases does_or s x hk with h | ⟨h1, h2, h3, h4⟩
  · rw [h]; exact .inl ⟨hoff, hf, hn⟩
  · rw [h1, h2, h3, h4]
    by_cases e : s.fuse = 1
    · obtain ⟨e1, e2, e3⟩ := step_off e
      exact .inr ⟨e2, e1, by omega⟩
    · obtain ⟨e1, e2, e3, e4⟩ := step_on e
      exact .inl ⟨e2.trans hoff, by omega, by omega⟩
theorem mayb {s : DS} {no : Int} (b : Bool) (hoff : s.off = false) (h : no < 1 ∨ 1000000 < no) : mayE s no b = 1 := by
  unfold mayE; rw [hoff, if_neg (by decide), if_pos h]
theorem mayn {s : DS} {no : Int} (hoff : s.off = false) (h : ¬ (no < 1 ∨ 1000000 < no)) (hs : (M.get s.files no).isSome = false) : mayE s no true = 7 := by
  unfold mayE; rw [hoff, if_neg (by decide), if_neg h, if_pos ⟨rfl, hs⟩]
theorem mayo {s : DS} {no : Int} (b : Bool) (hoff : s.off = false) (h : ¬ (no < 1 ∨ 1000000 < no)) (hs : b = true → (M.get s.files no).isSome = true) : mayE s no b = 0 := by
  unfold mayE; rw [hoff, if_neg (by decide), if_neg h, if_neg]
  rintro ⟨h1, h2⟩
  rw [hs h1] at h2; cases h2
theorem play_any (B rb : Nat) (s : DS) (r : RS) (v : Value) (k : Nat) (y : Ac) (w : World) (h : RInv B rb r v w) (hR : Rel s r) (hO : Okk s k) (hk : k ≤ 1000000) (hf : 1 ≤ s.fuse) (hoff : s.off = false) (hkd : y.p.kind ≤ 4) (hts : y.p.s.size ≤ 300) (hon : (doesS s y.p).off = false) :
    Calls Try.prog 14 #[.pointer (some ⟨rb, 0, none⟩), av y] w fun e w' => e = .returned (.int .i64 (doesE s y.p)) ∧ ∃ r', RStep B rb v w r' w' ∧ Rel (doesS s y.p) r' := by
  obtain ⟨fs, st⟩ := r
  obtain ⟨h1, h2⟩ := hR
  replace h1 : fs = s.keys.map (ent s) := h1
  replace h2 : st = s.steps := h2
  subst h1 h2
  have hlen : (s.keys.map (ent s)).length = s.files.length := Rel.len (r := ⟨s.keys.map (ent s), s.steps⟩) ⟨rfl, rfl⟩
  have h110 := hO.len
  have hl : (RS.mk (s.keys.map (ent s)) s.steps).fs.length ≤ 1000000 := by show (s.keys.map (ent s)).length ≤ _; omega
  have hst : 0 ≤ (RS.mk (s.keys.map (ent s)) s.steps).steps ∧ (RS.mk (s.keys.map (ent s)) s.steps).steps ≤ 1000000000 := by
    have := hO.steps
    show 0 ≤ s.steps ∧ s.steps ≤ 1000000000; omega
  have stay : ∀ {w'}, Below w.heap.size w w' → RStep B rb v w ⟨s.keys.map (ent s), s.steps⟩ w' := fun hb => (RStep.refl h).low hb
  have relS : Rel s ⟨s.keys.map (ent s), s.steps⟩ := ⟨rfl, rfl⟩
  obtain ⟨⟨kd, no, z, t, p⟩, PA, pc⟩ := y
  replace hkd : kd ≤ 4 := hkd
  replace hts : t.size ≤ 300 := hts
  by_cases k0 : kd < 1
  · have E : doesE s ⟨kd, no, z, t, p⟩ = 0 ∧ doesS s ⟨kd, no, z, t, p⟩ = s := by
      simp only [doesE, doesS, if_neg (show ¬ kd = 1 by omega), if_neg (show ¬ kd = 2 by omega), if_neg (show ¬ kd = 3 by omega), if_neg (show ¬ kd = 4 by omega), if_neg (show ¬ kd = 5 by omega), if_neg (show ¬ kd = 6 by omega), if_neg (show ¬ kd = 7 by omega), and_self]
    refine (play_low B rb _ v ⟨⟨kd, no, z, t, p⟩, PA, pc⟩ w h hl k0).mono ?_
    rintro e w' ⟨rfl, hb⟩
    exact ⟨by rw [E.1], _, stay hb, by rw [E.2]; exact relS⟩
  have hkk : kd = 1 ∨ kd = 2 ∨ kd = 3 ∨ kd = 4 := by omega
  by_cases hn : no < 1 ∨ 1000000 < no
  · have E : doesE s ⟨kd, no, z, t, p⟩ = 1 ∧ doesS s ⟨kd, no, z, t, p⟩ = s := by
      rcases hkk with rfl | rfl | rfl | rfl <;> simp [doesE, doesS, appE, appS, synE, synS, triE, triS, remE, remS, mayb _ hoff hn]
    refine (play_arg B rb _ v ⟨⟨kd, no, z, t, p⟩, PA, pc⟩ w h hl ⟨by show 1 ≤ kd; omega, hkd⟩ hn).mono ?_
    rintro e w' ⟨rfl, hb⟩
    exact ⟨by rw [E.1], _, stay hb, by rw [E.2]; exact relS⟩
  have hn' : 1 ≤ no ∧ no ≤ 1000000 := by omega
  cases hs : (M.get s.files no).isSome
  · have hfl : s.fl no = fl0 := by
      unfold DS.fl
      cases hg : M.get s.files no with
      | none => rfl
      | some f => rw [hg] at hs; cases hs
    have hat := at_keys_none (s := s) hs
    by_cases k1 : kd = 1
    · subst k1
      have m0 := mayo (s := s) (no := no) false hoff hn (fun e => by cases e)
      have hz : ¬ 1048576 < (s.fl no).data.size + t.size := by rw [hfl]; show ¬ 1048576 < 0 + t.size; omega
      by_cases hfull : 110 ≤ s.files.length
      · have E : doesE s ⟨1, no, z, t, p⟩ = 9 ∧ doesS s ⟨1, no, z, t, p⟩ = s := by
          simp [doesE, doesS, appE, appS, m0, hz, hs, hfull]
        refine (play_full B rb _ v ⟨⟨1, no, z, t, p⟩, PA, pc⟩ w h hl rfl hn' hts hat (by show 110 ≤ (s.keys.map (ent s)).length; omega)).mono ?_
        rintro e w' ⟨rfl, hb⟩
        exact ⟨by rw [E.1], _, stay hb, by rw [E.2]; exact relS⟩
      · have E : doesE s ⟨1, no, z, t, p⟩ = stepE s ∧ doesS s ⟨1, no, z, t, p⟩ = stepS (s.put no ⟨⟨#[]⟩ ++ t, 0⟩) := by
          have hfe : (s.fl no).data = ⟨#[]⟩ := by rw [hfl]; rfl
          have hfs : (s.fl no).safe = 0 := by rw [hfl]; rfl
          rw [hfe] at hz
          simp [doesE, doesS, appE, appS, m0, hz, hs, hfull, hfe, hfs]
        replace hon : (doesS s ⟨1, no, z, t, p⟩).off = false := hon
        rw [E.2, (step_put _ _ _).1] at hon
        have hf1 : s.fuse ≠ 1 := fun e => by rw [(step_off e).2.1] at hon; cases hon
        refine (play_new B rb _ v ⟨⟨1, no, z, t, p⟩, PA, pc⟩ w h hl rfl hn' hts hat (by show (s.keys.map (ent s)).length < 110; omega) hst).mono ?_
        rintro e w' ⟨rfl, i, hi, hr⟩
        refine ⟨by rw [E.1, (step_on hf1).1], _, hr, ?_⟩
        rw [E.2]
        refine ⟨?_, ?_⟩
        · rw [ent_step, ins_put hO.nd _ hs i hi, nil_cat]
          have e : (⟨no, ⟨#[]⟩, t⟩ : RF) = ⟨no, t.extract 0 0, t.extract 0 t.size⟩ := by
            rw [ext_self]
            congr 1
            apply ByteArray.ext; simp
          show (s.keys.map (ent s)).take i ++ (⟨no, ⟨#[]⟩, t⟩ : RF) :: (s.keys.map (ent s)).drop i = (s.keys.map (ent s)).take i ++ (⟨no, t.extract 0 0, t.extract 0 t.size⟩ : RF) :: (s.keys.map (ent s)).drop i
          rw [e]
        · rw [(step_put _ _ _).2.2]
          exact (step_on hf1).2.2.1.symm
    · have E : doesE s ⟨kd, no, z, t, p⟩ = 7 ∧ doesS s ⟨kd, no, z, t, p⟩ = s := by
        rcases hkk with rfl | rfl | rfl | rfl
        · exact absurd rfl k1
        all_goals simp [doesE, doesS, synE, synS, triE, triS, remE, remS, mayn hoff hn hs]
      refine (play_none B rb _ v ⟨⟨kd, no, z, t, p⟩, PA, pc⟩ w h hl ⟨by show 2 ≤ kd; omega, hkd⟩ hn' hat).mono ?_
      rintro e w' ⟨rfl, hb⟩
      exact ⟨by rw [E.1], _, stay hb, by rw [E.2]; exact relS⟩
  · have hmem := (keys_mem (s := s) no).2 hs
    obtain ⟨j, hj, hjn⟩ := List.mem_iff_getElem.1 hmem
    have hat : atI (s.keys.map (ent s)) no = j := by rw [← hjn]; exact at_keys hO.nd j hj
    have hj' : j < (s.keys.map (ent s)).length := by rw [List.length_map]; exact hj
    have hent : (s.keys.map (ent s))[j] = ent s no := by rw [List.getElem_map, hjn]
    have hfl := fl_ok hO.fl no
    rw [show (M.get s.files no).getD fl0 = s.fl no from rfl] at hfl
    have hss := ent_size hfl.1
    have hall := ent_all hfl.1
    have hsum : (ent s no).safe.size + (ent s no).tail.size = (s.fl no).data.size := by rw [← ByteArray.size_append, hall]
    have hsz : (RS.mk (s.keys.map (ent s)) s.steps).fs[j].safe.size + (RS.mk (s.keys.map (ent s)) s.steps).fs[j].tail.size ≤ 1048576 := by
      show (s.keys.map (ent s))[j].safe.size + (s.keys.map (ent s))[j].tail.size ≤ 1048576
      rw [hent, hsum]; exact hfl.2
    have hnd1 : M.Nodup (stepS s).files := by rw [stepS_files']; exact hO.nd
    have hk1 : (stepS s).keys = s.keys := by show ((stepS s).files.map (·.1)).mergeSort leI = _; rw [stepS_files']; rfl
    have hj1 : j < (stepS s).keys.length := by rw [hk1]; exact hj
    have hjn1 : (stepS s).keys[j] = no := by simp only [hk1]; exact hjn
    have mT := mayo (s := s) (no := no) true hoff hn (fun _ => hs)
    rcases hkk with rfl | rfl | rfl | rfl
    · have m0 := mayo (s := s) (no := no) false hoff hn (fun e => by cases e)
      by_cases hz : 1048576 < (s.fl no).data.size + t.size
      · have E : doesE s ⟨1, no, z, t, p⟩ = 5 ∧ doesS s ⟨1, no, z, t, p⟩ = s := by
          simp [doesE, doesS, appE, appS, m0, hz]
        refine (play_long B rb _ v ⟨⟨1, no, z, t, p⟩, PA, pc⟩ w h hl rfl hn' hts j hj' hat hsz ?_).mono ?_
        · show 1048576 < (s.keys.map (ent s))[j].safe.size + (s.keys.map (ent s))[j].tail.size + t.size
          rw [hent, hsum]; exact hz
        rintro e w' ⟨rfl, hb⟩
        exact ⟨by rw [E.1], _, stay hb, by rw [E.2]; exact relS⟩
      · have E : doesE s ⟨1, no, z, t, p⟩ = stepE s ∧ doesS s ⟨1, no, z, t, p⟩ = stepS (s.put no ⟨(s.fl no).data ++ t, (s.fl no).safe⟩) := by
          simp [doesE, doesS, appE, appS, m0, hz, hs]
        replace hon : (doesS s ⟨1, no, z, t, p⟩).off = false := hon
        rw [E.2, (step_put _ _ _).1] at hon
        have hf1 : s.fuse ≠ 1 := fun e => by rw [(step_off e).2.1] at hon; cases hon
        refine (play_app B rb _ v ⟨⟨1, no, z, t, p⟩, PA, pc⟩ w h hl rfl hn' hts j hj' hat ?_ hst).mono ?_
        · show (s.keys.map (ent s))[j].safe.size + (s.keys.map (ent s))[j].tail.size + t.size ≤ 1048576
          rw [hent, hsum]; omega
        rintro e w' ⟨rfl, hr⟩
        refine ⟨by rw [E.1, (step_on hf1).1], _, hr, ?_⟩
        rw [E.2]
        refine ⟨?_, ?_⟩
        · rw [ent_step, set_put hO.nd _ j hj hjn]
          show (s.keys.map (ent s)).set j ⟨(s.keys.map (ent s))[j].no, (s.keys.map (ent s))[j].safe, (s.keys.map (ent s))[j].tail ++ t⟩ = _
          rw [hent]
          congr 1
          show (⟨no, (s.fl no).data.extract 0 (s.fl no).safe, (s.fl no).data.extract (s.fl no).safe (s.fl no).data.size ++ t⟩ : RF) = _
          rw [ext_tail _ _ _ hfl.1, ext_app _ _ _ hfl.1]
        · rw [(step_put _ _ _).2.2]
          exact (step_on hf1).2.2.1.symm
    · have E1 : doesE s ⟨2, no, z, t, p⟩ = stepE s := by simp [doesE, synE, mT]
      have hf1 : s.fuse ≠ 1 := fun e => by
        replace hon : (doesS s ⟨2, no, z, t, p⟩).off = false := hon
        have : doesS s ⟨2, no, z, t, p⟩ = stepS s := by simp [doesS, synS, mT, (step_off e).1]
        rw [this, (step_off e).2.1] at hon; cases hon
      have E2 : doesS s ⟨2, no, z, t, p⟩ = (stepS s).put no ⟨(s.fl no).data, (s.fl no).data.size⟩ := by simp [doesS, synS, mT, (step_on hf1).1]
      refine (play_syn B rb _ v ⟨⟨2, no, z, t, p⟩, PA, pc⟩ w h hl rfl hn' j hj' hat hsz hst).mono ?_
      rintro e w' ⟨rfl, hr⟩
      refine ⟨by rw [E1, (step_on hf1).1], _, hr, ?_⟩
      rw [E2]
      refine ⟨?_, (step_on hf1).2.2.1.symm⟩
      rw [set_put hnd1 _ j hj1 hjn1, ent_step]
      show (s.keys.map (ent s)).set j ⟨(s.keys.map (ent s))[j].no, (s.keys.map (ent s))[j].safe ++ (s.keys.map (ent s))[j].tail, ⟨#[]⟩⟩ = _
      rw [hent, hall]
      congr 1
      show (⟨no, (s.fl no).data, ⟨#[]⟩⟩ : RF) = ⟨no, (s.fl no).data.extract 0 (s.fl no).data.size, (s.fl no).data.extract (s.fl no).data.size (s.fl no).data.size⟩
      rw [ext_self, ext_none]
    · by_cases hzz : z < 0 ∨ ((s.fl no).data.size : Int) < z
      · have E : doesE s ⟨3, no, z, t, p⟩ = 1 ∧ doesS s ⟨3, no, z, t, p⟩ = s := by
          simp [doesE, doesS, triE, triS, mT, hzz]
        refine (play_bad B rb _ v ⟨⟨3, no, z, t, p⟩, PA, pc⟩ w h hl rfl hn' j hj' hat hsz hst ?_).mono ?_
        · show z < 0 ∨ (((s.keys.map (ent s))[j].safe.size : Int) + ((s.keys.map (ent s))[j].tail.size : Int)) < z
          rw [hent]; omega
        rintro e w' ⟨rfl, hb⟩
        exact ⟨by rw [E.1], _, stay hb, by rw [E.2]; exact relS⟩
      · have E1 : doesE s ⟨3, no, z, t, p⟩ = stepE s := by simp [doesE, triE, mT, hzz]
        have hf1 : s.fuse ≠ 1 := fun e => by
          replace hon : (doesS s ⟨3, no, z, t, p⟩).off = false := hon
          have : doesS s ⟨3, no, z, t, p⟩ = stepS s := by simp [doesS, triS, mT, hzz, (step_off e).1]
          rw [this, (step_off e).2.1] at hon; cases hon
        have E2 : doesS s ⟨3, no, z, t, p⟩ = (stepS s).put no ⟨(s.fl no).data.extract 0 z.toNat, min (s.fl no).safe z.toNat⟩ := by simp [doesS, triS, mT, hzz, (step_on hf1).1]
        obtain ⟨q, rfl⟩ : ∃ q : Nat, z = q := ⟨z.toNat, by omega⟩
        have hq : q ≤ (s.fl no).data.size := by omega
        refine (play_tri B rb _ v ⟨⟨3, no, q, t, p⟩, PA, pc⟩ w h hl rfl hn' j hj' hat hsz hst q rfl ?_ (min (s.fl no).safe q) ?_).mono ?_
        · show q ≤ (s.keys.map (ent s))[j].safe.size + (s.keys.map (ent s))[j].tail.size
          rw [hent]; omega
        · show (q < (s.keys.map (ent s))[j].safe.size ∧ _) ∨ ((s.keys.map (ent s))[j].safe.size ≤ q ∧ _ = (s.keys.map (ent s))[j].safe.size)
          rw [hent]; omega
        rintro e w' ⟨rfl, hr⟩
        refine ⟨by rw [E1, (step_on hf1).1], _, hr, ?_⟩
        rw [E2]
        refine ⟨?_, (step_on hf1).2.2.1.symm⟩
        rw [set_put hnd1 _ j hj1 hjn1, ent_step]
        show (s.keys.map (ent s)).set j ⟨(s.keys.map (ent s))[j].no, ((s.keys.map (ent s))[j].safe ++ (s.keys.map (ent s))[j].tail).extract 0 (min (s.fl no).safe q), ((s.keys.map (ent s))[j].safe ++ (s.keys.map (ent s))[j].tail).extract (min (s.fl no).safe q) q⟩ = _
        rw [hent, hall]
        congr 1
        show (⟨no, (s.fl no).data.extract 0 (min (s.fl no).safe q), (s.fl no).data.extract (min (s.fl no).safe q) q⟩ : RF) = ⟨no, ((s.fl no).data.extract 0 (q : Int).toNat).extract 0 (min (s.fl no).safe (q : Int).toNat), ((s.fl no).data.extract 0 (q : Int).toNat).extract (min (s.fl no).safe (q : Int).toNat) ((s.fl no).data.extract 0 (q : Int).toNat).size⟩
        rw [Int.toNat_natCast, ext_ext _ _ _ (Nat.min_le_right _ _)]
        have hx : ((s.fl no).data.extract 0 q).size = q := by simp; omega
        rw [hx]
        congr 1
        apply ByteArray.ext
        simp
    · have E1 : doesE s ⟨4, no, z, t, p⟩ = stepE s := by simp [doesE, remE, synE, mT]
      have hf1 : s.fuse ≠ 1 := fun e => by
        replace hon : (doesS s ⟨4, no, z, t, p⟩).off = false := hon
        have : doesS s ⟨4, no, z, t, p⟩ = stepS s := by simp [doesS, remS, mT, (step_off e).1]
        rw [this, (step_off e).2.1] at hon; cases hon
      have E2 : doesS s ⟨4, no, z, t, p⟩ = (stepS s).del no := by simp [doesS, remS, mT, (step_on hf1).1]
      refine (play_rem B rb _ v ⟨⟨4, no, z, t, p⟩, PA, pc⟩ w h hl rfl hn' j hj' hat hsz hst).mono ?_
      rintro e w' ⟨rfl, hr⟩
      refine ⟨by rw [E1, (step_on hf1).1], _, hr, ?_⟩
      rw [E2]
      refine ⟨?_, (step_on hf1).2.2.1.symm⟩
      rw [cut_del hnd1 j hj1 hjn1, ent_step]
end Go.Proofs.Ytdmjbdecemajpaa.D
