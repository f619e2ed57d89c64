/- Plain theory of packed pixels: one pixel more. -/
import Derived.Test.YtmgkdlkjcncniaaTabQ
import Derived.Laws.Bits64b
namespace Go.Proofs.Ytmgkdlkjcncniaa

theorem bits_or32 (a b : Nat) (ha : a < 4294967296) (hb : b < 4294967296) : Go.bits .or .u32 (a : Int) (b : Int) = ((a ||| b : Nat) : Int) := by
  have hx : a ||| b < 2 ^ 32 := Nat.or_lt_two_pow (by omega) (by omega)
  have h1 : (BitVec.ofInt 32 (a : Int)).toNat = a := by
    rw [BitVec.ofInt_natCast, BitVec.toNat_ofNat]; exact Nat.mod_eq_of_lt (by omega)
  have h2 : (BitVec.ofInt 32 (b : Int)).toNat = b := by
    rw [BitVec.ofInt_natCast, BitVec.toNat_ofNat]; exact Nat.mod_eq_of_lt (by omega)
  show IntKind.u32.wrap ((BitVec.ofInt 32 (a : Int) ||| BitVec.ofInt 32 (b : Int)).toNat : Int) = _
  rw [BitVec.toNat_or, h1, h2]
  simp [IntKind.wrap, IntKind.bits, IntKind.signed]
  omega

namespace Tb
theorem size_le {b j : Nat} (hb : b ≤ 3) (hj : j < 2 ^ b) : (j + 1) * (8 / 2 ^ b) ≤ 8 := by
  have : b = 0 ∨ b = 1 ∨ b = 2 ∨ b = 3 := by omega
  rcases this with rfl | rfl | rfl | rfl
  all_goals
    simp at hj ⊢
    omega
theorem val_step {W V b t i : Nat} {N : Nat → Nat} (hb : b ≤ 3) (hV : V = (W + 2 ^ b - 1) / 2 ^ b) (hW : 1 ≤ W) (hN : ∀ k, N k < 2 ^ (8 / 2 ^ b)) (hi : N t = i) :
    val W V b N t (t / W * V + t % W / 2 ^ b) ||| (4278190080 ||| (i * 2 ^ (t % W % 2 ^ b * (8 / 2 ^ b)) * 256)) = val W V b N (t + 1) (t / W * V + t % W / 2 ^ b) := by
  have hp : 0 < 2 ^ b := Nat.pow_pos (by decide)
  obtain ⟨c1, c2, c3⟩ := cellK_at (t := t) hV hW
  obtain ⟨_, a2, a3⟩ := at_cell (t := t) hV hW
  have hjl : t % W % 2 ^ b < 2 ^ b := Nat.mod_lt _ hp
  have hsz := size_le hb hjl
  have hi2 : i < 2 ^ (8 / 2 ^ b) := hi ▸ hN t
  unfold val
  rw [c1, c2, a2, a3]
  generalize hj : t % W % 2 ^ b = j at *
  have hg := gs_lt (p0 := t / W * W + t % W / 2 ^ b * 2 ^ b) hN j
  have hz0 : j = 0 → gs b N (t / W * W + t % W / 2 ^ b * 2 ^ b) j = 0 := by intro h; subst h; rfl
  have hnew : gs b N (t / W * W + t % W / 2 ^ b * 2 ^ b) (j + 1) = gs b N (t / W * W + t % W / 2 ^ b * 2 ^ b) j + i * 2 ^ (j * (8 / 2 ^ b)) := by
    conv => lhs; unfold gs
    rw [c3, hi]
  rw [if_neg (show ¬ j + 1 = 0 by omega), hnew]
  rw [Nat.add_mul, Nat.one_mul] at hsz
  generalize gs b N (t / W * W + t % W / 2 ^ b * 2 ^ b) j = g at *
  generalize j * (8 / 2 ^ b) = s at *
  generalize 8 / 2 ^ b = z at *
  have h8 : i * 2 ^ s < 256 := by
    have h1 : i * 2 ^ s < 2 ^ z * 2 ^ s := Nat.mul_lt_mul_of_pos_right hi2 (Nat.pow_pos (by decide))
    rw [← Nat.pow_add] at h1
    have h2 : 2 ^ (z + s) ≤ 2 ^ 8 := Nat.pow_le_pow_right (by decide) (by omega)
    have : (2 : Nat) ^ 8 = 256 := by decide
    omega
  have hg8 : g < 256 := by
    have h2 : 2 ^ s ≤ 2 ^ 8 := Nat.pow_le_pow_right (by decide) (by omega)
    have : (2 : Nat) ^ 8 = 256 := by decide
    omega
  by_cases hj0 : j = 0
  · rw [if_pos hj0, Nat.zero_or]
    rw [black_or _ (by omega), hz0 hj0]; omega
  · rw [if_neg hj0]
    exact or_step black_or hg (by omega) (by omega)
end Tb
end Go.Proofs.Ytmgkdlkjcncniaa
