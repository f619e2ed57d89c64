/- Plain facts of packed pictures as a whole. -/
import Derived.Test.YtmgkdlkjcncniaaTab7P
namespace Go.Proofs.Ytmgkdlkjcncniaa

theorem fi_mem : ∀ {ls : List Int} {p : Int}, p ∈ ls → ∃ i, fi ls p = some i ∧ ls.getD i 0 = p
  | [], _, h => by simp at h
  | x :: t, p, h => by
    unfold fi
    by_cases hx : x = p
    · exact ⟨0, by rw [if_pos hx], by simp [hx]⟩
    · rw [if_neg hx]
      rcases List.mem_cons.1 h with h | h
      · exact absurd h.symm hx
      · obtain ⟨i, h1, h2⟩ := fi_mem h
        exact ⟨i + 1, by rw [h1]; rfl, by simpa using h2⟩
theorem cell_full {W V H b I : Nat} (hV : V = (W + 2 ^ b - 1) / 2 ^ b) (hW : 1 ≤ W) (hI : I < V * H) : I / V < H ∧ I % V * 2 ^ b < W ∧ I / V * W + I % V * 2 ^ b < W * H := by
  have hp : 0 < 2 ^ b := Nat.pow_pos (by decide)
  have hv : 0 < V := by rcases Nat.eq_zero_or_pos V with h | h; rw [h, Nat.zero_mul] at hI; omega; exact h
  have h1 : I / V < H := Nat.div_lt_of_lt_mul hI
  have h2 : I % V < V := Nat.mod_lt _ hv
  have h3 : I % V * 2 ^ b < W := by
    have : I % V + 1 ≤ (W + 2 ^ b - 1) / 2 ^ b := by rw [← hV]; exact h2
    rw [Nat.le_div_iff_mul_le hp, Nat.add_mul, Nat.one_mul] at this
    omega
  refine ⟨h1, h3, ?_⟩
  have h4 : (I / V + 1) * W ≤ H * W := Nat.mul_le_mul_right W h1
  rw [Nat.add_mul, Nat.one_mul, Nat.mul_comm H W] at h4
  omega
theorem val_full {W V H b I : Nat} {N : Nat → Nat} (hV : V = (W + 2 ^ b - 1) / 2 ^ b) (hW : 1 ≤ W) (hI : I < V * H) (hN : ∀ k, N k < 2 ^ (8 / 2 ^ b)) :
    ∃ g, g < 256 ∧ Tb.val W V b N (W * H) I = 4278190080 + 256 * g := by
  obtain ⟨h1, h2, h3⟩ := cell_full hV hW hI
  have hp : 0 < 2 ^ b := Nat.pow_pos (by decide)
  have hk : 1 ≤ Tb.cellK W V b (W * H) I := by unfold Tb.cellK; omega
  have hg := Tb.gs_lt (p0 := I / V * W + I % V * 2 ^ b) hN (Tb.cellK W V b (W * H) I)
  have hk2 : Tb.cellK W V b (W * H) I ≤ 2 ^ b := by unfold Tb.cellK; omega
  have h4 : Tb.cellK W V b (W * H) I * (8 / 2 ^ b) ≤ 8 := by
    have : Tb.cellK W V b (W * H) I * (8 / 2 ^ b) ≤ 2 ^ b * (8 / 2 ^ b) := Nat.mul_le_mul_right _ hk2
    have h4 : 2 ^ b * (8 / 2 ^ b) ≤ 8 := Nat.mul_div_le _ _
    omega
  have h5 : 2 ^ (Tb.cellK W V b (W * H) I * (8 / 2 ^ b)) ≤ 2 ^ 8 := Nat.pow_le_pow_right (by decide) h4
  have h6 : (2 : Nat) ^ 8 = 256 := by decide
  refine ⟨_, ?_, by unfold Tb.val; rw [if_neg (by omega)]⟩
  omega
set_option maxRecDepth 20000 in
theorem black_masks : ∀ g : Fin 256, (4278190080 + 256 * g.val) &&& 4294902015 = 4278190080 := by decide
theorem bits_and32 (a b : Nat) (ha : a < 4294967296) (hb : b < 4294967296) : Go.bits .and .u32 (a : Int) (b : Int) = ((a &&& b : Nat) : Int) := by
  have hx : a &&& b < 2 ^ 32 := Nat.and_lt_two_pow _ (by omega)
  have h1 : (BitVec.ofInt 32 (a : Int)).toNat = a := by
    rw [BitVec.ofInt_natCast, BitVec.toNat_ofNat]; exact Nat.mod_eq_of_lt (by omega)
  have h2 : (BitVec.ofInt 32 (b : Int)).toNat = b := by
    rw [BitVec.ofInt_natCast, BitVec.toNat_ofNat]; exact Nat.mod_eq_of_lt (by omega)
  show IntKind.u32.wrap ((BitVec.ofInt 32 (a : Int) &&& BitVec.ofInt 32 (b : Int)).toNat : Int) = _
  rw [BitVec.toNat_and, h1, h2]
  simp [IntKind.wrap, IntKind.bits, IntKind.signed]
  omega
theorem black_mask {v : Nat} (h : ∃ g, g < 256 ∧ v = 4278190080 + 256 * g) : Go.bits .and .u32 (v : Int) 4294902015 = 4278190080 := by
  obtain ⟨g, hg, rfl⟩ := h
  have := bits_and32 (4278190080 + 256 * g) 4294902015 (by omega) (by omega)
  rw [black_masks ⟨g, hg⟩] at this
  exact this
def manyT (m : Nat) : Nat := if m ≤ 2 then 8 else if m ≤ 4 then 4 else if m ≤ 16 then 2 else 1
theorem many_pow (m : Nat) : manyT m = 2 ^ bitsT m := by unfold manyT bitsT; split; rfl; split; rfl; split; rfl; rfl
end Go.Proofs.Ytmgkdlkjcncniaa
