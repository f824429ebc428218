/- Objects in memory: their cells; short words for walks through regions that draw their order. -/
import Derived.Test.YtmbmnldheilffaaProg
import Derived.Test.YtmbmnldheilffaaGen
import Derived.Test.YtmbmnldheilffaaMo0
import Derived.Deep.RegionHeld3
import Derived.Deep.RegionLaw
import Derived.Deep.CutRange
import Derived.Laws.OwnMore
namespace Go.Proofs.Ytmbmnldheilffaa
set_option linter.unusedVariables false
set_option linter.unusedSimpArgs false
open Go.RowKit
theorem size102 : (Try.prog.info? 78).map (·.size) = some 2 := by kernel_rfl
theorem cellk {cs : Array Value} {T : TypeId} (w : World) (j : Nat) (h : w.heap[j]? = some (.cells cs T (0, 0))) (i : Nat) (hi : i < cs.size) : w.cell? ⟨j, i, none⟩ = some cs[i] := by simp [World.cell?, h, hi]
theorem frozk {cs : Array Value} {T : TypeId} (w : World) (j : Nat) (h : w.heap[j]? = some (.cells cs T (0, 0))) (i : Nat) : w.frozen? ⟨j, i, none⟩ = false := by simp [World.frozen?, h]
theorem owns_mono {w : World} {base B e size n : Nat} {v : Value} {xs : List Value} (h : w.ownsRow base e size v n xs) (hB : B ≤ base) : w.ownsRow B e size v n xs :=
  ⟨h.1, h.2.imp id fun ⟨g, cap, cur, h1, h2, h3⟩ => ⟨g, cap, cur, h1, Nat.le_trans hB h2, h3⟩⟩
theorem owns_slice {w : World} {base e size n : Nat} {v : Value} {xs : List Value} (h : w.ownsRow base e size v n xs) : ∃ A c, v = .slice A n c := by
  obtain ⟨_, ⟨rfl, rfl⟩ | ⟨g, cap, cur, rfl, _⟩⟩ := h
  · exact ⟨none, 0, rfl⟩
  · exact ⟨_, _, rfl⟩
theorem info9 : (Try.prog.info? 9).map (fun i => (i.zero, i.size, i.bytes)) = some (some (.string ByteArray.empty), 1, 16) := by kernel_rfl
theorem info3 : (Try.prog.info? 3).map (fun i => (i.zero, i.size, i.bytes)) = some (some (.int .i64 0), 1, 8) := by kernel_rfl
theorem info102 : (Try.prog.info? 78).map (fun i => (i.zero, i.size, i.bytes)) = some (some (.agg #[.string ByteArray.empty, .string ByteArray.empty]), 2, 32) := by kernel_rfl
def cS (x : ByteArray) : List Value := [.string x]
def cI (x : Int) : List Value := [.int .i64 x]
def cP (x : ByteArray × ByteArray) : List Value := [.string x.1, .string x.2]
theorem one_S (x : ByteArray) : ∀ u ∈ cS x, u.oneCell' = true := by intro u hu; simp only [cS, List.mem_singleton] at hu; subst hu; rfl
theorem one_I (x : Int) : ∀ u ∈ cI x, u.oneCell' = true := by intro u hu; simp only [cI, List.mem_singleton] at hu; subst hu; rfl
theorem one_P (x : ByteArray × ByteArray) : ∀ u ∈ cP x, u.oneCell' = true := by
  intro u hu
  simp only [cP, List.mem_cons, List.not_mem_nil, or_false] at hu
  rcases hu with rfl | rfl <;> rfl
theorem flat_len {T : Type} (f : T → List Value) (sz : Nat) (hf : ∀ a, (f a).length = sz) (l : List T) : (l.flatMap f).length = l.length * sz := by
  induction l with
  | nil => simp
  | cons a l ih => rw [List.flatMap_cons, List.length_append, ih, hf, List.length_cons, Nat.add_mul]; omega
theorem flat_snoc {T : Type} (f : T → List Value) (l : List T) (a : T) : (l ++ [a]).flatMap f = l.flatMap f ++ f a := by simp
theorem bel_alloc (w : World) (o : Obj) : Below w.heap.size w (w.alloc o) := (Below.refl _ _).alloc (Nat.le_refl _) _
/-- where a row lies, and its room -/
structure Sl where
  A : Option Addr
  c : Nat
/-- an object's cells -/
def oc (o : Ob) (f l c p i : Sl) : Array Value :=
  #[.int .i64 o.kind, .string o.name, .int .i64 o.uid, .int .i64 o.version, .bool o.deleting, .slice f.1 o.fins.length f.2, .slice l.1 o.labels.length l.2, .slice c.1 o.cidrs.length c.2, .string o.status, .int .i64 o.type, .int .i64 o.policy,
    .slice p.1 o.fams.length p.2, .slice i.1 o.ips.length i.2, .string o.v4, .string o.v6, .int .i64 o.bits, .string o.sel, .string o.about, .string o.reason]
def Sl0 : Sl := ⟨none, 0⟩
/-- rows of an object that were made behind a place -/
structure ObOwn (w : World) (B : Nat) (o : Ob) (f l c p i : Sl) : Prop where
  fr : w.ownsRow B 9 1 (.slice f.1 o.fins.length f.2) o.fins.length (o.fins.flatMap cS)
  lr : w.ownsRow B 78 2 (.slice l.1 o.labels.length l.2) o.labels.length (o.labels.flatMap cP)
  cr : w.ownsRow B 9 1 (.slice c.1 o.cidrs.length c.2) o.cidrs.length (o.cidrs.flatMap cS)
  pr : w.ownsRow B 3 1 (.slice p.1 o.fams.length p.2) o.fams.length (o.fams.flatMap cI)
  ir : w.ownsRow B 9 1 (.slice i.1 o.ips.length i.2) o.ips.length (o.ips.flatMap cS)
theorem ObOwn.mono {w : World} {B C : Nat} {o : Ob} {f l c p i : Sl} (h : ObOwn w B o f l c p i) (hC : C ≤ B) : ObOwn w C o f l c p i :=
  ⟨owns_mono h.fr hC, owns_mono h.lr hC, owns_mono h.cr hC, owns_mono h.pr hC, owns_mono h.ir hC⟩
theorem oc_one (o : Ob) (f l c p i : Sl) : (oc o f l c p i).all (·.oneCell') = true := by simp [oc, Value.oneCell']
theorem size32 : (Try.prog.info? 26).map (·.size) = some 19 := by kernel_rfl
theorem bel_allocRow (w : World) (a b : Array Value) (T : TypeId) : Below w.heap.size w ((w.alloc (.cells a T)).setRow w.heap.size b) :=
  ⟨rfl, rfl, rfl, by rw [size_setRow]; simp, fun i hi => (setRow_other _ _ _ _ (by omega)).trans ((bel_alloc w _).block i hi)⟩
theorem results_ctt {P : Program} {fn : Func} {p u v : Tmp} {ty : TypeId} (h : fn.results = #[.cell p ty, .tmp u, .tmp v]) (tmps : Array Value) (w : World) (g : Nat) (t : TypeId) (cs : Array Value) (fr : Nat × Nat) (d : TypeDesc)
    (hp : tmps.getD p undef = .pointer (some ⟨g, 0, none⟩)) (hg : w.heap[g]? = some (.cells cs t fr))
    (hu : P.underlying ty = some d) (hd : (match d with | .struct _ | .array _ _ => true | _ => false) = true) (hi : (P.info? ty).map (·.size) = some cs.size) :
    (results fn tmps).run P w = .ok (.tuple #[.agg cs, tmps.getD u undef, tmps.getD v undef]) w := by
  have hp' : tmps[p]?.getD undef = .pointer (some ⟨g, 0, none⟩) := by simpa using hp
  simp [results, h, hp', asAddr, run_loadVar_row w g t ty cs fr d hg hu hd hi]
theorem results_ct {P : Program} {fn : Func} {p u : Tmp} {ty : TypeId} (h : fn.results = #[.cell p ty, .tmp u]) (tmps : Array Value) (w : World) (g : Nat) (t : TypeId) (cs : Array Value) (fr : Nat × Nat) (d : TypeDesc)
    (hp : tmps.getD p undef = .pointer (some ⟨g, 0, none⟩)) (hg : w.heap[g]? = some (.cells cs t fr))
    (hu : P.underlying ty = some d) (hd : (match d with | .struct _ | .array _ _ => true | _ => false) = true) (hi : (P.info? ty).map (·.size) = some cs.size) :
    (results fn tmps).run P w = .ok (.tuple #[.agg cs, tmps.getD u undef]) w := by
  have hp' : tmps[p]?.getD undef = .pointer (some ⟨g, 0, none⟩) := by simpa using hp
  simp [results, h, hp', asAddr, run_loadVar_row w g t ty cs fr d hg hu hd hi]
theorem ObOwn.below {w w1 : World} {B : Nat} {o : Ob} {f l c p i : Sl} (h : ObOwn w B o f l c p i) (hb : Below w.heap.size w w1) : ObOwn w1 B o f l c p i :=
  ⟨G.owns_below h.fr hb, G.owns_below h.lr hb, G.owns_below h.cr hb, G.owns_below h.pr hb, G.owns_below h.ir hb⟩
theorem z19 : #[.int .i64 0, .string ⟨#[]⟩, .int .i64 0, .int .i64 0, .bool false, .slice none 0 0, .slice none 0 0, .slice none 0 0, .string ⟨#[]⟩, .int .i64 0, .int .i64 0, .slice none 0 0, .slice none 0 0, .string ⟨#[]⟩, .string ⟨#[]⟩, .int .i64 0, .string ⟨#[]⟩, .string ⟨#[]⟩, .string ⟨#[]⟩] = oc zeroOb Sl0 Sl0 Sl0 Sl0 Sl0 := rfl
section
variable {P : Program} {ops : Array Oper} {Q : Exit → Act → World → Prop} {md : Region.Mode} {S : World → Prop}
theorem takeH {i : Nat} {oi : Oper} {fuel : Nat} {listed : Array Bool} {a : Act} {w : World} (t : Nat) (v : Value) (hi : ops[i]? = some oi) (hd : oi.dst = some t)
    (hs : Region.noSelect ops = true) (hf : Region.free md ops listed i = true) (hr : (Region.ready md ops listed).contains i = true)
    (hQ : ∀ c a w, Q (.panic c) (a.put oi.dst v) w → Q (.panic c) a w) (hy : Region.wanted oi (yielded ops a.tmps) = true) (hv : ∀ w, S w → (execOp a.eval oi).run P w = .ok (.value v) w) (hS : S w)
    (h : wpAnyH P md ops Q S fuel (listed.setIfInBounds i true) ⟨a.tmps.setIfInBounds t v, a.defers⟩ w) : wpAnyH P md ops Q S (fuel + 1) listed a w :=
  wpAnyH_take hi hs hf hr hQ (.inl ⟨hy, hv⟩) hS (by rw [hd]; exact h)
theorem load_row_yields {a : Act} {op : Oper} (ty : TypeId) (x : Operand) (ho : op.op = .load ty x) (g : Nat) (hx : a.eval x = .pointer (some ⟨g, 0, none⟩)) (t : TypeId) (cs : Array Value) (fr : Nat × Nat) (d : TypeDesc)
    (hS : ∀ w, S w → w.heap[g]? = some (.cells cs t fr)) (hu : P.underlying ty = some d) (hd : (match d with | .struct _ | .array _ _ => true | _ => false) = true) (hi : (P.info? ty).map (·.size) = some cs.size) :
    ∀ w, S w → (execOp a.eval op).run P w = .ok (.value (.agg cs)) w := fun w hw => by
  unfold execOp
  simp only [ho, hx, Instr.loadAt, Instr.sureAddr, Sem.run_bind, Sem.run_pure, Result.andThen_ok, run_loadVar_row w g t ty cs fr d (hS w hw) hu hd hi]
end
theorem s1 {α : Type} (l : List α) (i : Nat) (a : α) : l.toArray.setIfInBounds i a = (l.set i a).toArray := by simp only [List.setIfInBounds_toArray]
theorem s2 {α : Type} {x a : α} {xs : List α} : (x :: xs).set 0 a = a :: xs := List.set_cons_zero
theorem s3 {α : Type} {x a : α} {xs : List α} {n : Nat} : (x :: xs).set (n + 1) a = x :: xs.set n a := List.set_cons_succ
section
variable {P : Program} {ops : Array Oper} {Q : Exit → Act → World → Prop} {md : Region.Mode} {S : World → Prop}
theorem takeS {i : Nat} {oi : Oper} {fuel : Nat} {listed : Array Bool} {a : Act} {w : World} (t : Nat) (hi : ops[i]? = some oi) (hd : oi.dst = some t)
    (hs : Region.noSelect ops = true) (hf : Region.free md ops listed i = true) (hr : (Region.ready md ops listed).contains i = true)
    (hQ : ∀ c a w, Q (.panic c) (a.put oi.dst undef) w → Q (.panic c) a w) (hy : Region.wanted oi (yielded ops a.tmps) = false) (hS : S w)
    (h : wpAnyH P md ops Q S fuel (listed.setIfInBounds i true) ⟨a.tmps.setIfInBounds t undef, a.defers⟩ w) : wpAnyH P md ops Q S (fuel + 1) listed a w :=
  wpAnyH_take hi hs hf hr hQ (.inr ⟨hy, rfl⟩) hS (by rw [hd]; exact h)
end
section
variable {P : Program} {ops : Array Oper} {Q : Exit → Act → World → Prop} {md : Region.Mode} {S : World → Prop} {oi : Oper} {fuel : Nat} {listed : Array Bool} {a : Act} {w : World}
/-- an operation that yields its value is taken first -/
theorem tk (i t : Nat) (v : Value) (h : wpAnyH P md ops Q S fuel (listed.setIfInBounds i true) ⟨a.tmps.setIfInBounds t v, a.defers⟩ w)
    (hi : ops[i]? = some oi := by rfl) (hd : oi.dst = some t := by rfl) (hs : Region.noSelect ops = true := by kernel_rfl) (hf : Region.free md ops listed i = true := by kernel_rfl)
    (hr : (Region.ready md ops listed).contains i = true := by kernel_rfl) (hQ : ∀ c a w, Q (.panic c) (a.put oi.dst v) w → Q (.panic c) a w := by exact fun _ _ _ h => h)
    (hy : Region.wanted oi (yielded ops a.tmps) = true := by rfl) (hS : S w := by assumption)
    (hv : ∀ w, S w → (execOp a.eval oi).run P w = .ok (.value v) w := by (intro V hV; clear hV; go_simp; try rfl)) : wpAnyH P md ops Q S (fuel + 1) listed a w :=
  takeH t v hi hd hs hf hr hQ hy hv hS h
/-- an operation that is not wanted -/
theorem ts (i t : Nat) (h : wpAnyH P md ops Q S fuel (listed.setIfInBounds i true) ⟨a.tmps.setIfInBounds t undef, a.defers⟩ w)
    (hi : ops[i]? = some oi := by rfl) (hd : oi.dst = some t := by rfl) (hs : Region.noSelect ops = true := by kernel_rfl) (hf : Region.free md ops listed i = true := by kernel_rfl)
    (hr : (Region.ready md ops listed).contains i = true := by kernel_rfl) (hQ : ∀ c a w, Q (.panic c) (a.put oi.dst undef) w → Q (.panic c) a w := by exact fun _ _ _ h => h)
    (hy : Region.wanted oi (yielded ops a.tmps) = false := by rfl) (hS : S w := by assumption) : wpAnyH P md ops Q S (fuel + 1) listed a w :=
  takeS t hi hd hs hf hr hQ hy hS h
end
abbrev zob : Array Value := #[.int .i64 0, .string ⟨#[]⟩, .int .i64 0, .int .i64 0, .bool false, .slice none 0 0, .slice none 0 0, .slice none 0 0, .string ⟨#[]⟩, .int .i64 0, .int .i64 0, .slice none 0 0, .slice none 0 0, .string ⟨#[]⟩, .string ⟨#[]⟩, .int .i64 0, .string ⟨#[]⟩, .string ⟨#[]⟩, .string ⟨#[]⟩]
theorem oc_at (x : Nat) (o : Ob) (f l c p i : Sl) : (∀ V : World, V.heap[x]? = some (.cells (oc o f l c p i) 26 (0, 0)) → V.cell? ⟨x, 0, none⟩ = some (.int .i64 o.kind)) ∧ (∀ V : World, V.heap[x]? = some (.cells (oc o f l c p i) 26 (0, 0)) → V.cell? ⟨x, 1, none⟩ = some (.string o.name)) ∧ (∀ V : World, V.heap[x]? = some (.cells (oc o f l c p i) 26 (0, 0)) → V.cell? ⟨x, 2, none⟩ = some (.int .i64 o.uid)) ∧ (∀ V : World, V.heap[x]? = some (.cells (oc o f l c p i) 26 (0, 0)) → V.cell? ⟨x, 3, none⟩ = some (.int .i64 o.version)) ∧ (∀ V : World, V.heap[x]? = some (.cells (oc o f l c p i) 26 (0, 0)) → V.cell? ⟨x, 4, none⟩ = some (.bool o.deleting)) ∧ (∀ V : World, V.heap[x]? = some (.cells (oc o f l c p i) 26 (0, 0)) → V.cell? ⟨x, 5, none⟩ = some (.slice f.A o.fins.length f.c)) ∧ (∀ V : World, V.heap[x]? = some (.cells (oc o f l c p i) 26 (0, 0)) → V.cell? ⟨x, 6, none⟩ = some (.slice l.A o.labels.length l.c)) ∧ (∀ V : World, V.heap[x]? = some (.cells (oc o f l c p i) 26 (0, 0)) → V.cell? ⟨x, 7, none⟩ = some (.slice c.A o.cidrs.length c.c)) ∧ (∀ V : World, V.heap[x]? = some (.cells (oc o f l c p i) 26 (0, 0)) → V.cell? ⟨x, 8, none⟩ = some (.string o.status)) ∧ (∀ V : World, V.heap[x]? = some (.cells (oc o f l c p i) 26 (0, 0)) → V.cell? ⟨x, 9, none⟩ = some (.int .i64 o.type)) ∧ (∀ V : World, V.heap[x]? = some (.cells (oc o f l c p i) 26 (0, 0)) → V.cell? ⟨x, 10, none⟩ = some (.int .i64 o.policy)) ∧ (∀ V : World, V.heap[x]? = some (.cells (oc o f l c p i) 26 (0, 0)) → V.cell? ⟨x, 11, none⟩ = some (.slice p.A o.fams.length p.c)) ∧ (∀ V : World, V.heap[x]? = some (.cells (oc o f l c p i) 26 (0, 0)) → V.cell? ⟨x, 12, none⟩ = some (.slice i.A o.ips.length i.c)) ∧ (∀ V : World, V.heap[x]? = some (.cells (oc o f l c p i) 26 (0, 0)) → V.cell? ⟨x, 13, none⟩ = some (.string o.v4)) ∧ (∀ V : World, V.heap[x]? = some (.cells (oc o f l c p i) 26 (0, 0)) → V.cell? ⟨x, 14, none⟩ = some (.string o.v6)) ∧ (∀ V : World, V.heap[x]? = some (.cells (oc o f l c p i) 26 (0, 0)) → V.cell? ⟨x, 15, none⟩ = some (.int .i64 o.bits)) ∧ (∀ V : World, V.heap[x]? = some (.cells (oc o f l c p i) 26 (0, 0)) → V.cell? ⟨x, 16, none⟩ = some (.string o.sel)) ∧ (∀ V : World, V.heap[x]? = some (.cells (oc o f l c p i) 26 (0, 0)) → V.cell? ⟨x, 17, none⟩ = some (.string o.about)) ∧ (∀ V : World, V.heap[x]? = some (.cells (oc o f l c p i) 26 (0, 0)) → V.cell? ⟨x, 18, none⟩ = some (.string o.reason)) := by
  refine ⟨?_, ?_, ?_, ?_, ?_, ?_, ?_, ?_, ?_, ?_, ?_, ?_, ?_, ?_, ?_, ?_, ?_, ?_, ?_⟩ <;> (intro V hV; simp [World.cell?, hV, oc])
end Go.Proofs.Ytmbmnldheilffaa
