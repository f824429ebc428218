/- CRC-32C, bit by bit and by half bytes, over Nat: plain laws, no program. -/
namespace Go.Proofs.YtdmjbdecemajpaaDoor.SumP
/-- one bit of the remainder -/
def st (r : Nat) : Nat := if r % 2 = 1 then (r / 2) ^^^ 0x82F63B78 else r / 2

theorem xor_mod2 (a b : Nat) : (a ^^^ b) % 2 = (a % 2 + b % 2) % 2 := by
  have h := Nat.testBit_xor a b 0
  simp only [Nat.testBit_zero] at h
  rcases Nat.mod_two_eq_zero_or_one a with ha | ha <;> rcases Nat.mod_two_eq_zero_or_one b with hb | hb <;>
    rcases Nat.mod_two_eq_zero_or_one (a ^^^ b) with hc | hc <;> simp_all
theorem xor_div2 (a b : Nat) : (a ^^^ b) / 2 = (a / 2) ^^^ (b / 2) := by
  apply Nat.eq_of_testBit_eq
  intro i
  simp [Nat.testBit_div_two]

theorem st_xor (a b : Nat) : st (a ^^^ b) = st a ^^^ st b := by
  unfold st
  rw [xor_mod2, xor_div2]
  rcases Nat.mod_two_eq_zero_or_one a with ha | ha <;> rcases Nat.mod_two_eq_zero_or_one b with hb | hb
  · simp [ha, hb]
  · simp [ha, hb, Nat.xor_assoc]
  · simp [ha, hb]
    rw [Nat.xor_assoc, Nat.xor_assoc, Nat.xor_comm (b/2)]
  · simp [ha, hb]
    generalize 2197175160 = p
    rw [show a / 2 ^^^ p ^^^ (b / 2 ^^^ p) = (a/2 ^^^ b/2) ^^^ (p ^^^ p) by ac_rfl]
    simp

theorem st_double (a : Nat) : st (2 * a) = a := by unfold st; rw [if_neg (by omega)]; omega
theorem st_lt {a : Nat} (h : a < 4294967296) : st a < 4294967296 := by
  unfold st
  split
  · exact Nat.xor_lt_two_pow (n := 32) (by omega) (by decide)
  · omega
theorem st_zero {a : Nat} (h : a < 4294967296) (hz : st a = 0) : a = 0 := by
  unfold st at hz
  split at hz
  · exfalso
    have h1 : (a / 2).testBit 31 = false := Nat.testBit_lt_two_pow (by omega)
    have h2 : (a / 2 ^^^ 2197175160).testBit 31 = false := by rw [hz]; simp
    rw [Nat.testBit_xor, h1] at h2
    revert h2; decide
  · omega
def st4 (r : Nat) : Nat := st (st (st (st r)))
def st8 (r : Nat) : Nat := st4 (st4 r)
theorem st4_xor (a b : Nat) : st4 (a ^^^ b) = st4 a ^^^ st4 b := by simp [st4, st_xor]
theorem st8_xor (a b : Nat) : st8 (a ^^^ b) = st8 a ^^^ st8 b := by simp [st8, st4_xor]
theorem st4_mul (a : Nat) : st4 (16 * a) = a := by
  unfold st4
  rw [show 16 * a = 2 * (2 * (2 * (2 * a))) by omega]
  simp only [st_double]
theorem st8_mul (a : Nat) : st8 (256 * a) = a := by
  unfold st8
  rw [show 256 * a = 16 * (16 * a) by omega, st4_mul, st4_mul]
theorem st4_lt {a : Nat} (h : a < 4294967296) : st4 a < 4294967296 := st_lt (st_lt (st_lt (st_lt h)))
theorem st8_lt {a : Nat} (h : a < 4294967296) : st8 a < 4294967296 := st4_lt (st4_lt h)
theorem st4_zero {a : Nat} (h : a < 4294967296) (hz : st4 a = 0) : a = 0 :=
  st_zero h (st_zero (st_lt h) (st_zero (st_lt (st_lt h)) (st_zero (st_lt (st_lt (st_lt h))) hz)))
theorem st8_zero {a : Nat} (h : a < 4294967296) (hz : st8 a = 0) : a = 0 := st4_zero h (st4_zero (st4_lt h) hz)

def row : List Nat := [0, 274646895, 549293790, 820201905, 1098587580, 1361435347, 1640403810, 1905808397, 2197175160, 2460548119, 2722870694, 2987750089, 3280807620, 3553878443, 3811616794, 4084100981]
theorem st4_small : ∀ j, j < 16 → st4 j = row.getD j 0 := by decide
theorem split16 (r : Nat) : r = 16 * (r / 16) ^^^ (r % 16) := by
  have h : 16 * (r/16) + r % 16 = 16 * (r/16) ||| r % 16 := by
    have := Nat.two_pow_add_eq_or_of_lt (i := 4) (b := r % 16) (by omega) (r / 16)
    simpa using this
  have h2 : 16 * (r/16) ||| r % 16 = 16 * (r/16) ^^^ r % 16 := by
    apply Nat.eq_of_testBit_eq
    intro i
    rw [Nat.testBit_or, Nat.testBit_xor]
    rcases Nat.lt_or_ge i 4 with hi | hi
    · have : (16 * (r / 16)).testBit i = false := by
        rw [show 16 * (r/16) = 2 ^ 4 * (r/16) by rfl, Nat.testBit_two_pow_mul]
        simp; omega
      simp [this]
    · have : (r % 16).testBit i = false := Nat.testBit_lt_two_pow (Nat.lt_of_lt_of_le (Nat.mod_lt _ (by decide)) (by
        calc 16 = 2 ^ 4 := by rfl
          _ ≤ 2 ^ i := Nat.pow_le_pow_right (by decide) hi))
      simp [this]
  omega
/-- the table does four bits at once -/
theorem nib (r : Nat) : st4 r = (r / 16) ^^^ row.getD (r % 16) 0 := by
  conv => lhs; rw [split16 r]
  rw [st4_xor, st4_mul, st4_small _ (Nat.mod_lt _ (by decide))]

/-- a byte -/
def by_ (r : Nat) (b : Nat) : Nat := st8 (r ^^^ b)
def run (r : Nat) (l : List Nat) : Nat := l.foldl by_ r
theorem run_append (r : Nat) (l m : List Nat) : run r (l ++ m) = run (run r l) m := by simp [run, List.foldl_append]
theorem by_lt {r b : Nat} (h : r < 4294967296) (hb : b < 256) : by_ r b < 4294967296 :=
  st8_lt (Nat.xor_lt_two_pow (n := 32) h (by omega))
theorem run_lt (l : List Nat) : ∀ {r : Nat}, r < 4294967296 → (∀ b ∈ l, b < 256) → run r l < 4294967296 := by
  induction l with
  | nil => intro r h _; exact h
  | cons b l ih => intro r h hb; exact ih (by_lt h (hb b (by simp))) (fun x hx => hb x (by simp [hx]))
theorem xor4 (a b c d : Nat) : (a ^^^ b) ^^^ (c ^^^ d) = (a ^^^ c) ^^^ (b ^^^ d) := by ac_rfl
theorem by_xor (r q b c : Nat) : by_ r b ^^^ by_ q c = st8 ((r ^^^ q) ^^^ (b ^^^ c)) := by
  unfold by_; rw [← st8_xor, xor4]
/-- behind the same bytes a difference stays one -/
theorem run_ne (l : List Nat) : ∀ {r q : Nat}, r < 4294967296 → q < 4294967296 → (∀ b ∈ l, b < 256) → r ≠ q → run r l ≠ run q l := by
  induction l with
  | nil => intro r q _ _ _ h; exact h
  | cons b l ih =>
    intro r q hr hq hb hne
    refine ih (by_lt hr (hb b (by simp))) (by_lt hq (hb b (by simp))) (fun x hx => hb x (by simp [hx])) ?_
    intro he
    have h0 : by_ r b ^^^ by_ q b = 0 := by rw [he]; simp
    rw [by_xor] at h0
    have h1 := st8_zero (Nat.xor_lt_two_pow (n := 32) (Nat.xor_lt_two_pow (n := 32) hr hq) (by simp)) h0
    rw [Nat.xor_self, Nat.xor_zero] at h1
    exact hne (by
      have := congrArg (· ^^^ q) h1
      simpa [Nat.xor_assoc] using this)
theorem xor_zero_eq {a b : Nat} (h : a ^^^ b = 0) : a = b := by
  have := congrArg (· ^^^ b) h
  simpa [Nat.xor_assoc] using this
theorem xor_lt32 {a b : Nat} (h : a < 4294967296) (k : b < 4294967296) : a ^^^ b < 4294967296 := Nat.xor_lt_two_pow (n := 32) h k
theorem mul256_xor (a b : Nat) : 256 * (a ^^^ b) = 256 * a ^^^ 256 * b := by
  apply Nat.eq_of_testBit_eq
  intro i
  rw [Nat.testBit_xor]
  simp only [show (256 : Nat) = 2 ^ 8 by rfl, Nat.testBit_two_pow_mul, Nat.testBit_xor]
  cases decide (8 ≤ i) <;> simp
theorem low256 {d x : Nat} (hd : d < 256) (h : d ^^^ 256 * x = 0) : d = 0 ∧ x = 0 := by
  have := xor_zero_eq h
  omega
/-- four bytes that differ -/
theorem four {r a0 a1 a2 a3 d0 d1 d2 d3 : Nat} (h0 : d0 < 256) (h1 : d1 < 256) (h2 : d2 < 256) (h3 : d3 < 256)
    (he : run r [a0, a1, a2, a3] = run r [a0 ^^^ d0, a1 ^^^ d1, a2 ^^^ d2, a3 ^^^ d3]) : d0 = 0 ∧ d1 = 0 ∧ d2 = 0 ∧ d3 = 0 := by
  have hd (a d : Nat) : a ^^^ (a ^^^ d) = d := by rw [← Nat.xor_assoc]; simp
  have key : st8 (st8 (st8 (st8 d0 ^^^ d1) ^^^ d2) ^^^ d3) = 0 := by
    have hx : run r [a0, a1, a2, a3] ^^^ run r [a0 ^^^ d0, a1 ^^^ d1, a2 ^^^ d2, a3 ^^^ d3] = 0 := by rw [he]; simp
    simp only [run, List.foldl_cons, List.foldl_nil, by_xor, hd, Nat.xor_self, Nat.zero_xor] at hx
    exact hx
  have k1 : st8 (st8 (st8 d0 ^^^ d1) ^^^ d2) ^^^ d3 = 0 := st8_zero (xor_lt32 (st8_lt (xor_lt32 (st8_lt (xor_lt32 (st8_lt (by omega)) (by omega))) (by omega))) (by omega)) key
  have k2 : st8 (st8 d0 ^^^ d1) ^^^ d2 ^^^ 256 * d3 = 0 := by
    refine st8_zero (xor_lt32 (xor_lt32 (st8_lt (xor_lt32 (st8_lt (by omega)) (by omega))) (by omega)) (by omega)) ?_
    rw [st8_xor, st8_mul]; exact k1
  have k3 : st8 d0 ^^^ d1 ^^^ 256 * d2 ^^^ 65536 * d3 = 0 := by
    refine st8_zero (xor_lt32 (xor_lt32 (xor_lt32 (st8_lt (by omega)) (by omega)) (by omega)) (by omega)) ?_
    rw [st8_xor, st8_xor, st8_mul, show 65536 * d3 = 256 * (256 * d3) by omega, st8_mul]; exact k2
  have k4 : d0 ^^^ 256 * d1 ^^^ 65536 * d2 ^^^ 16777216 * d3 = 0 := by
    refine st8_zero (xor_lt32 (xor_lt32 (xor_lt32 (by omega) (by omega)) (by omega)) (by omega)) ?_
    rw [st8_xor, st8_xor, st8_xor, st8_mul, show 65536 * d2 = 256 * (256 * d2) by omega, st8_mul, show 16777216 * d3 = 256 * (65536 * d3) by omega, st8_mul]; exact k3
  have e0 : d0 ^^^ 256 * (d1 ^^^ 256 * (d2 ^^^ 256 * d3)) = 0 := by
    rw [mul256_xor, mul256_xor, mul256_xor]
    rw [show 256 * (256 * d2) = 65536 * d2 by omega, show 256 * (256 * (256 * d3)) = 16777216 * d3 by omega]
    rw [← Nat.xor_assoc, ← Nat.xor_assoc]; exact k4
  obtain ⟨z0, e1⟩ := low256 h0 e0
  obtain ⟨z1, e2⟩ := low256 h1 e1
  obtain ⟨z2, e3⟩ := low256 h2 e2
  exact ⟨z0, z1, z2, by omega⟩
end Go.Proofs.YtdmjbdecemajpaaDoor.SumP
