/- Plain arithmetic of bits in bytes: no program in sight. -/
namespace Go.Proofs.YtfeloicmkcfinaaDoor

/-- Bit i of bytes, of each byte the lowest first. -/
def bitAt (bs : List Int) (i : Nat) : Int := (bs[i / 8]?.getD 0) / 2 ^ (i % 8) % 2
/-- n bits from p on as a number, the first one lowest. -/
def bitsVal (bs : List Int) (p : Nat) : Nat → Int
  | 0 => 0
  | n + 1 => bitsVal bs p n + bitAt bs (p + n) * 2 ^ n

theorem bitAt_bounds (bs : List Int) (i : Nat) : 0 ≤ bitAt bs i ∧ bitAt bs i ≤ 1 := by unfold bitAt; omega
theorem bitsVal_nonneg (bs : List Int) (p n : Nat) : 0 ≤ bitsVal bs p n := by
  induction n with
  | zero => simp [bitsVal]
  | succ n ih =>
    have h := bitAt_bounds bs (p + n)
    have h2 : (0 : Int) ≤ 2 ^ n := by exact_mod_cast Nat.zero_le _
    have := Int.mul_nonneg h.1 h2
    simp only [bitsVal]; omega
theorem bitsVal_lt (bs : List Int) (p n : Nat) : bitsVal bs p n < 2 ^ n := by
  induction n with
  | zero => simp [bitsVal]
  | succ n ih =>
    have h := bitAt_bounds bs (p + n)
    have h2 : (0 : Int) ≤ 2 ^ n := by exact_mod_cast Nat.zero_le _
    have := Int.mul_le_mul_of_nonneg_right h.2 h2
    simp only [bitsVal, Int.pow_succ]; omega

theorem bitsVal_add (bs : List Int) (p m n : Nat) : bitsVal bs p (m + n) = bitsVal bs p m + bitsVal bs (p + m) n * 2 ^ m := by
  induction n with
  | zero => simp [bitsVal]
  | succ n ih =>
    rw [← Nat.add_assoc, bitsVal, ih, bitsVal, Int.add_mul, Int.add_assoc, Int.mul_assoc, ← Int.pow_add, Nat.add_assoc p m n, Nat.add_comm n m]

theorem emod_two_mul (y a : Int) (ha : 0 ≤ a) : y % (a * 2) = y % a + y / a % 2 * a := by
  rw [Int.emod_def, Int.emod_def y a, Int.emod_def (y / a) 2, ← Int.ediv_ediv_of_nonneg ha, Int.sub_mul]
  have : 2 * (y / a / 2) * a = a * 2 * (y / a / 2) := by rw [Int.mul_comm a 2, Int.mul_right_comm]
  rw [this, Int.mul_comm a (y / a)]
  omega
/-- Of one byte. -/
theorem bitsVal_byte (bs : List Int) (p t : Nat) (h : p % 8 + t ≤ 8) : bitsVal bs p t = (bs[p / 8]?.getD 0) / 2 ^ (p % 8) % 2 ^ t := by
  induction t with
  | zero => simp [bitsVal, Int.emod_one]
  | succ t ih =>
    rw [bitsVal, ih (by omega)]
    have hq : (p + t) / 8 = p / 8 := by omega
    have hr : (p + t) % 8 = p % 8 + t := by omega
    unfold bitAt
    rw [hq, hr, Int.pow_add]
    generalize (bs[p / 8]?.getD 0) = x
    have hd : x / (2 ^ (p % 8) * 2 ^ t) = x / 2 ^ (p % 8) / 2 ^ t := by
      rw [Int.ediv_ediv_of_nonneg]
      exact_mod_cast Nat.zero_le _
    rw [hd]
    generalize x / 2 ^ (p % 8) = y
    exact (emod_two_mul y (2 ^ t) (by exact_mod_cast Nat.zero_le _)).symm

theorem bitsVal_drop (bs : List Int) (k p n : Nat) : bitsVal (bs.drop k) p n = bitsVal bs (8 * k + p) n := by
  induction n with
  | zero => rfl
  | succ n ih =>
    simp only [bitsVal, ih]
    congr 2
    unfold bitAt
    have h1 : (8 * k + p + n) / 8 = k + (p + n) / 8 := by omega
    have h2 : (8 * k + p + n) % 8 = (p + n) % 8 := by omega
    rw [h1, h2, List.getElem?_drop]
theorem bitsVal_take (bs : List Int) (k p n : Nat) (h : p + n ≤ 8 * k) : bitsVal (bs.take k) p n = bitsVal bs p n := by
  induction n with
  | zero => rfl
  | succ n ih =>
    simp only [bitsVal, ih (by omega)]
    congr 2
    unfold bitAt
    rw [List.getElem?_take_of_lt (by omega)]

/-- OR of a number below 2^j and a multiple of 2^j is their sum. -/
theorem or_shift (v y : Nat) (j : Nat) (h : v < 2 ^ j) : v ||| (y <<< j) = v + y * 2 ^ j := by
  rw [Nat.or_comm, Nat.shiftLeft_eq, ← Nat.shiftLeft_eq, ← Nat.shiftLeft_add_eq_or_of_lt h, Nat.shiftLeft_eq]; omega
end Go.Proofs.YtfeloicmkcfinaaDoor
