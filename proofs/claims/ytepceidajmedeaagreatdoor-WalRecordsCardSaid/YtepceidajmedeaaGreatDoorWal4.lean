/- Lemmas for a law of this seat, part 4: contracts of the functions that it reaches, and the plain law. No condition but those of each lemma. -/


namespace CW

abbrev Bytes := List UInt8

/-- One halving of the register. -/
def half (r : Nat) : Nat := if r % 2 = 1 then (r / 2) ^^^ 2197175160 else r / 2

def halves : Nat → Nat → Nat
  | 0, r => r
  | k + 1, r => halves k (half r)

theorem halves_succ (k r : Nat) : halves (k + 1) r = half (halves k r) := by
  induction k generalizing r with
  | zero => rfl
  | succ k ih => exact ih (half r)

def feed (r : Nat) (c : UInt8) : Nat := halves 8 (r ^^^ c.toNat)
def flip (r : Nat) : Nat := 4294967295 - r
def more (s : Nat) (bs : Bytes) : Nat := flip (bs.foldl feed (flip s))
def sum (bs : Bytes) : Nat := more 0 bs

theorem xor_lt32 {a b : Nat} (ha : a < 4294967296) (hb : b < 4294967296) : a ^^^ b < 4294967296 :=
  Nat.xor_lt_two_pow (n := 32) ha hb

theorem half_lt {r : Nat} (h : r < 4294967296) : half r < 4294967296 := by
  unfold half
  split
  · exact xor_lt32 (by omega) (by decide)
  · omega

theorem halves_lt (k : Nat) {r : Nat} (h : r < 4294967296) : halves k r < 4294967296 := by
  induction k generalizing r with
  | zero => exact h
  | succ k ih => exact ih (half_lt h)

theorem feed_lt {r : Nat} (h : r < 4294967296) (c : UInt8) : feed r c < 4294967296 :=
  halves_lt 8 (xor_lt32 h (Nat.lt_of_lt_of_le c.toNat_lt (by decide)))

theorem fold_lt (bs : Bytes) {r : Nat} (h : r < 4294967296) : bs.foldl feed r < 4294967296 := by
  induction bs generalizing r with
  | nil => exact h
  | cons b bs ih => exact ih (feed_lt h b)

theorem flip_lt (r : Nat) : flip r < 4294967296 := by unfold flip; omega
theorem more_lt (s : Nat) (bs : Bytes) : more s bs < 4294967296 := flip_lt _
theorem sum_lt (bs : Bytes) : sum bs < 4294967296 := flip_lt _

theorem xor_mod2 (a b : Nat) : (a ^^^ b) % 2 = (a % 2 + b % 2) % 2 := by
  have h := Nat.xor_mod_two_pow (a := a) (b := b) (n := 1)
  simp only [Nat.pow_one] at h
  rw [h]
  rcases Nat.mod_two_eq_zero_or_one a with ha | ha <;> rcases Nat.mod_two_eq_zero_or_one b with hb | hb <;> rw [ha, hb] <;> decide

theorem xor_div2 (a b : Nat) : (a ^^^ b) / 2 = a / 2 ^^^ b / 2 := by
  have h := Nat.xor_div_two_pow (a := a) (b := b) (n := 1)
  simpa using h

theorem half_xor (a b : Nat) : half (a ^^^ b) = half a ^^^ half b := by
  unfold half
  rw [xor_mod2, xor_div2]
  rcases Nat.mod_two_eq_zero_or_one a with ha | ha <;> rcases Nat.mod_two_eq_zero_or_one b with hb | hb <;> rw [ha, hb] <;> simp
  · rw [Nat.xor_assoc]
  · rw [Nat.xor_assoc, Nat.xor_assoc, Nat.xor_comm (b / 2)]
  · rw [← Nat.xor_assoc, Nat.xor_assoc (a / 2), Nat.xor_comm 2197175160, ← Nat.xor_assoc, Nat.xor_assoc (a / 2 ^^^ b / 2), Nat.xor_self, Nat.xor_zero]

theorem halves_xor (k a b : Nat) : halves k (a ^^^ b) = halves k a ^^^ halves k b := by
  induction k generalizing a b with
  | zero => rfl
  | succ k ih => simp only [halves]; rw [half_xor, ih]

theorem half_even (q : Nat) : half (2 * q) = q := by unfold half; rw [if_neg (by omega)]; omega

theorem halves8_high (q : Nat) : halves 8 (256 * q) = q := by
  simp only [halves]
  rw [show 256 * q = 2 * (128 * q) by omega, half_even, show 128 * q = 2 * (64 * q) by omega, half_even, show 64 * q = 2 * (32 * q) by omega, half_even,
    show 32 * q = 2 * (16 * q) by omega, half_even, show 16 * q = 2 * (8 * q) by omega, half_even, show 8 * q = 2 * (4 * q) by omega, half_even,
    show 4 * q = 2 * (2 * q) by omega, half_even, half_even]

theorem split_byte (x : Nat) : x = (256 * (x / 256)) ^^^ (x % 256) := by
  have h := Nat.two_pow_add_eq_or_of_lt (i := 8) (b := x % 256) (Nat.mod_lt _ (by decide)) (x / 256)
  have e : 256 * (x / 256) + x % 256 = x := by omega
  have hx : (256 * (x / 256)) ^^^ (x % 256) = 256 * (x / 256) + x % 256 := by
    have hand : (256 * (x / 256)) &&& (x % 256) = 0 := by
      apply Nat.eq_of_testBit_eq
      intro i
      simp only [Nat.testBit_and, Nat.zero_testBit]
      by_cases hi : i < 8
      · have : (256 * (x / 256)).testBit i = false := by
          have := Nat.testBit_two_pow_mul (i := 8) (a := x / 256) (j := i)
          rw [show (2 : Nat) ^ 8 = 256 by decide] at this
          rw [this]; simp; omega
        simp [this]
      · have : (x % 256).testBit i = false := Nat.testBit_lt_two_pow (Nat.lt_of_lt_of_le (Nat.mod_lt _ (by decide)) (show 2 ^ 8 ≤ 2 ^ i from Nat.pow_le_pow_right (by decide) (by omega)))
        simp [this]
    apply Nat.eq_of_testBit_eq
    intro i
    rw [show (2 : Nat) ^ 8 = 256 by decide] at h
    rw [h, Nat.testBit_xor, Nat.testBit_or]
    have hb := congrArg (fun z => z.testBit i) hand
    simp only [Nat.testBit_and, Nat.zero_testBit] at hb
    generalize (256 * (x / 256)).testBit i = p at hb ⊢
    generalize (x % 256).testBit i = q at hb ⊢
    cases p <;> cases q <;> first | rfl | cases hb
  rw [hx, e]

/-- The register fed by the table. -/
theorem feed_table (r : Nat) (c : UInt8) : feed r c = (r / 256) ^^^ halves 8 ((r % 256) ^^^ c.toNat) := by
  unfold feed
  have hc : c.toNat < 256 := c.toNat_lt
  conv => lhs; rw [split_byte r, Nat.xor_assoc]
  rw [halves_xor, halves8_high]

theorem xor_lt256 {a b : Nat} (ha : a < 256) (hb : b < 256) : a ^^^ b < 256 := Nat.xor_lt_two_pow (n := 8) ha hb

end CW
