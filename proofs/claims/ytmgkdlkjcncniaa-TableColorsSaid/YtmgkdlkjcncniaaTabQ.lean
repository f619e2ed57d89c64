/- Plain theory of packed pixels. -/
namespace Go.Proofs.Ytmgkdlkjcncniaa.Tb

/-- Some numbers side by side, the first lowest. -/
def gs (b : Nat) (N : Nat → Nat) (p0 : Nat) : Nat → Nat
  | 0 => 0
  | k + 1 => gs b N p0 k + N (p0 + k) * 2 ^ (k * (8 / 2 ^ b))
/-- How many pixels of a cell are among the first t. -/
def cellK (W V b t I : Nat) : Nat := min (t - (I / V * W + I % V * 2 ^ b)) (min (2 ^ b) (W - I % V * 2 ^ b))
def val (W V b : Nat) (N : Nat → Nat) (t I : Nat) : Nat := if cellK W V b t I = 0 then 0 else 4278190080 + 256 * gs b N (I / V * W + I % V * 2 ^ b) (cellK W V b t I)

theorem gs_lt {b : Nat} {N : Nat → Nat} {p0 : Nat} (h : ∀ i, N i < 2 ^ (8 / 2 ^ b)) : ∀ k, gs b N p0 k < 2 ^ (k * (8 / 2 ^ b))
  | 0 => by simp [gs]
  | k + 1 => by
    have h1 := gs_lt (p0 := p0) h k
    have h2 := h (p0 + k)
    unfold gs
    rw [Nat.add_mul, Nat.one_mul, Nat.pow_add]
    have h3 : N (p0 + k) * 2 ^ (k * (8 / 2 ^ b)) + 2 ^ (k * (8 / 2 ^ b)) ≤ 2 ^ (k * (8 / 2 ^ b)) * 2 ^ (8 / 2 ^ b) := by
      have : (N (p0 + k) + 1) * 2 ^ (k * (8 / 2 ^ b)) ≤ 2 ^ (8 / 2 ^ b) * 2 ^ (k * (8 / 2 ^ b)) := Nat.mul_le_mul_right _ h2
      rw [Nat.add_mul, Nat.one_mul] at this
      rw [Nat.mul_comm (2 ^ (k * (8 / 2 ^ b)))]; exact this
    omega

theorem dm {t W q r : Nat} (h : t = W * q + r) (hr : r < W) : t / W = q ∧ t % W = r := by
  subst h
  rw [Nat.mul_add_div (by omega), Nat.div_eq_of_lt hr, Nat.mul_add_mod, Nat.mod_eq_of_lt hr]
  exact ⟨by omega, rfl⟩
section
variable {W V b H t : Nat}
theorem at_cell (hV : V = (W + 2 ^ b - 1) / 2 ^ b) (hW : 1 ≤ W) : t % W / 2 ^ b < V ∧ (t / W * V + t % W / 2 ^ b) / V = t / W ∧ (t / W * V + t % W / 2 ^ b) % V = t % W / 2 ^ b := by
  have hp : 0 < 2 ^ b := Nat.pow_pos (by decide)
  have hx : t % W < W := Nat.mod_lt _ (by omega)
  have hy : t % W / 2 ^ b < V := by
    rw [hV]
    show t % W / 2 ^ b + 1 ≤ (W + 2 ^ b - 1) / 2 ^ b
    rw [Nat.le_div_iff_mul_le hp, Nat.add_mul, Nat.one_mul]
    have := Nat.div_mul_le_self (t % W) (2 ^ b)
    omega
  have hv : 0 < V := Nat.lt_of_le_of_lt (Nat.zero_le _) hy
  refine ⟨hy, ?_, ?_⟩
  · rw [Nat.mul_comm, Nat.mul_add_div hv, Nat.div_eq_of_lt hy, Nat.add_zero]
  · rw [Nat.mul_comm, Nat.mul_add_mod, Nat.mod_eq_of_lt hy]
theorem cellK_at (hV : V = (W + 2 ^ b - 1) / 2 ^ b) (hW : 1 ≤ W) : cellK W V b t (t / W * V + t % W / 2 ^ b) = t % W % 2 ^ b ∧ cellK W V b (t + 1) (t / W * V + t % W / 2 ^ b) = t % W % 2 ^ b + 1 ∧
    t / W * W + t % W / 2 ^ b * 2 ^ b + t % W % 2 ^ b = t := by
  obtain ⟨h1, h2, h3⟩ := at_cell (t := t) hV hW
  have hp : 0 < 2 ^ b := Nat.pow_pos (by decide)
  have hx : t % W < W := Nat.mod_lt _ (by omega)
  have e1 := Nat.div_add_mod (t % W) (2 ^ b)
  have e2 := Nat.div_add_mod t W
  have e3 : t % W % 2 ^ b < 2 ^ b := Nat.mod_lt _ hp
  unfold cellK
  rw [h2, h3]
  rw [Nat.mul_comm] at e1 e2
  generalize t / W * W = a at *
  generalize t % W / 2 ^ b * 2 ^ b = c at *
  omega
theorem cellK_other (hW : 1 ≤ W) {I : Nat} (hI : I ≠ t / W * V + t % W / 2 ^ b) : cellK W V b (t + 1) I = cellK W V b t I := by
  have hp : 0 < 2 ^ b := Nat.pow_pos (by decide)
  unfold cellK
  by_cases h : I / V * W + I % V * 2 ^ b ≤ t ∧ t < I / V * W + I % V * 2 ^ b + min (2 ^ b) (W - I % V * 2 ^ b)
  · exfalso
    obtain ⟨h1, h2⟩ := h
    have hb1 : I % V * 2 ^ b < W := by omega
    obtain ⟨hq, hx⟩ := dm (t := t) (W := W) (q := I / V) (r := t - I / V * W) (by rw [Nat.mul_comm]; omega) (by omega)
    obtain ⟨hy, _⟩ := dm (t := t % W) (W := 2 ^ b) (q := I % V) (r := t % W - I % V * 2 ^ b) (by rw [Nat.mul_comm, hx]; omega) (by rw [hx]; omega)
    apply hI
    rw [hq, hy, Nat.mul_comm]
    exact (Nat.div_add_mod I V).symm
  · generalize I / V * W + I % V * 2 ^ b = a at *
    generalize min (2 ^ b) (W - I % V * 2 ^ b) = k at *
    omega
end

theorem or_lt {x y : Nat} (hx : x < 16777216) (hy : y < 16777216) : x ||| y < 16777216 := by
  have h24 : (2 : Nat) ^ 24 = 16777216 := by decide
  rw [← h24] at hx hy ⊢
  exact Nat.or_lt_two_pow hx hy
/-- One more number beside those that are there. -/
theorem or_step {F g s n : Nat} (hF : ∀ x, x < 16777216 → F ||| x = F + x) (hg : g < 2 ^ s) (hgg : 256 * g < 16777216) (hn : n * 2 ^ s * 256 < 16777216) : (F + 256 * g) ||| (F ||| (n * 2 ^ s * 256)) = F + 256 * (g + n * 2 ^ s) := by
  have h8 : 256 * g < 2 ^ (s + 8) := by rw [Nat.pow_add]; omega
  have e2 : n * 2 ^ s * 256 = 2 ^ (s + 8) * n := by rw [Nat.pow_add, Nat.mul_comm n, Nat.mul_assoc, Nat.mul_comm n, ← Nat.mul_assoc]
  have e1 : 256 * g ||| n * 2 ^ s * 256 = 256 * (g + n * 2 ^ s) := by
    rw [e2, Nat.or_comm, ← Nat.two_pow_add_eq_or_of_lt h8]
    rw [← e2, Nat.mul_add, Nat.add_comm, Nat.mul_comm 256 (n * 2 ^ s)]
  have hsum : 256 * (g + n * 2 ^ s) < 16777216 := by
    rw [← e1]
    exact or_lt hgg hn
  rw [← hF _ hgg, Nat.or_assoc, ← Nat.or_assoc (256 * g), Nat.or_comm (256 * g) F, Nat.or_assoc, e1, ← Nat.or_assoc, Nat.or_self, hF _ hsum]
theorem black_or : ∀ x, x < 16777216 → 4278190080 ||| x = 4278190080 + x := fun x hx => by
  have h := Nat.two_pow_add_eq_or_of_lt (i := 24) (b := x) hx 255
  have e : 2 ^ 24 * 255 = 4278190080 := by decide
  rw [e] at h
  exact h.symm
end Go.Proofs.Ytmgkdlkjcncniaa.Tb
