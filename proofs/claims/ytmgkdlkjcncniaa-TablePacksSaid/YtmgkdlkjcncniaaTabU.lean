/- Plain facts for the reference's Packed. -/
import Derived.Test.YtmgkdlkjcncniaaBoxRow
import Derived.Test.YtmgkdlkjcncniaaTabS
namespace Go.Proofs.Ytmgkdlkjcncniaa

theorem fi_first : ∀ {ls : List Int} {p : Int} {k : Nat}, (∀ i, i < k → ls.getD i 0 ≠ p) → k < ls.length → ls.getD k 0 = p → fi ls p = some k
  | [], _, _, _, h, _ => by simp at h
  | x :: t, p, 0, _, _, h => by
    unfold fi
    rw [if_pos (by simpa using h)]
  | x :: t, p, k + 1, h0, h1, h2 => by
    unfold fi
    have hx : x ≠ p := by have := h0 0 (by omega); simpa using this
    rw [if_neg hx, fi_first (k := k) (fun i hi => by have := h0 (i + 1) (by omega); simpa using this) (by simpa using h1) (by simpa using h2)]
    rfl
theorem fi_miss : ∀ {ls : List Int} {p : Int}, (∀ i, i < ls.length → ls.getD i 0 ≠ p) → fi ls p = none
  | [], _, _ => rfl
  | x :: t, p, h0 => by
    unfold fi
    have hx : x ≠ p := by have := h0 0 (by simp); simpa using this
    rw [if_neg hx, fi_miss (fun i hi => by have := h0 (i + 1) (by simpa using hi); simpa using this)]
    rfl
/-- How many pixels the cell number x of a row has. -/
def full (W b x : Nat) : Nat := min (2 ^ b) (W - x * 2 ^ b)
theorem cellK_full {W V H b y x : Nat} (hV : V = (W + 2 ^ b - 1) / 2 ^ b) (hW : 1 ≤ W) (hy : y < H) (hx : x < V) : Tb.cellK W V b (W * H) (y * V + x) = full W b x ∧ 1 ≤ full W b x ∧ (y * V + x) / V = y ∧ (y * V + x) % V = x ∧ x * 2 ^ b < W ∧ y * W + W ≤ W * H := by
  obtain ⟨q1, q2⟩ := qm (w := V) (t := y * V + x) rfl hx
  have hlt : y * V + x < V * H := by
    have h1 : (y + 1) * V ≤ H * V := Nat.mul_le_mul_right V hy
    rw [Nat.add_mul, Nat.one_mul, Nat.mul_comm H V] at h1
    omega
  obtain ⟨h1, h2, h3⟩ := cell_full (H := H) hV hW hlt
  rw [q1, q2] at h3
  rw [q2] at h2
  have h4 : (y + 1) * W ≤ H * W := Nat.mul_le_mul_right W hy
  rw [Nat.add_mul, Nat.one_mul, Nat.mul_comm H W] at h4
  have hp : 0 < 2 ^ b := Nat.pow_pos (by decide)
  refine ⟨?_, by unfold full; omega, q1, q2, h2, h4⟩
  unfold Tb.cellK full
  rw [q1, q2]
  generalize y * W = a at *
  generalize x * 2 ^ b = c at *
  omega
theorem val_cell {W V H b y x : Nat} {N : Nat → Nat} (hV : V = (W + 2 ^ b - 1) / 2 ^ b) (hW : 1 ≤ W) (hy : y < H) (hx : x < V) : Tb.val W V b N (W * H) (y * V + x) = 4278190080 + 256 * Tb.gs b N (y * W + x * 2 ^ b) (full W b x) := by
  obtain ⟨h1, h2, h3, h4, _⟩ := cellK_full hV hW hy hx
  unfold Tb.val
  rw [h1, if_neg (by omega), h3, h4]
/-- Each pixel lies in one cell. -/
theorem cell_of {W V H b t : Nat} (hV : V = (W + 2 ^ b - 1) / 2 ^ b) (hW : 1 ≤ W) (ht : t < W * H) : ∃ y x j, y < H ∧ x < V ∧ j < full W b x ∧ y * W + x * 2 ^ b + j = t := by
  obtain ⟨h1, h2, h3⟩ := idx_lt (W := V) (w := W) (H := H) hW hV ht
  obtain ⟨c1, c2, c3⟩ := Tb.cellK_at (t := t) hV hW
  refine ⟨t / W, t % W / 2 ^ b, t % W % 2 ^ b, h1, h2, ?_, c3⟩
  have hp : 0 < 2 ^ b := Nat.pow_pos (by decide)
  have hx : t % W < W := Nat.mod_lt _ (by omega)
  have e1 := Nat.div_add_mod (t % W) (2 ^ b)
  have e3 : t % W % 2 ^ b < 2 ^ b := Nat.mod_lt _ hp
  unfold full
  rw [Nat.mul_comm] at e1
  omega
theorem gs_full_lt {b W x p0 : Nat} {N : Nat → Nat} (h : ∀ i, N i < 2 ^ (8 / 2 ^ b)) : Tb.gs b N p0 (full W b x) < 256 := by
  have h1 := Tb.gs_lt (p0 := p0) h (full W b x)
  have h3 : full W b x ≤ 2 ^ b := by unfold full; omega
  have h4 : full W b x * (8 / 2 ^ b) ≤ 8 := Nat.le_trans (Nat.mul_le_mul_right _ h3) (Nat.mul_div_le _ _)
  have h5 : 2 ^ (full W b x * (8 / 2 ^ b)) ≤ 2 ^ 8 := Nat.pow_le_pow_right (by decide) h4
  have h6 : (2 : Nat) ^ 8 = 256 := by decide
  omega
/-- One number more, from above. -/
theorem gs_down {b p0 j F g m : Nat} {N : Nat → Nat} (hj : j < F) (hg : g + Tb.gs b N p0 (min (j + 1) F) = Tb.gs b N p0 F) (hN : N (p0 + j) = m) : g + m * 2 ^ (j * (8 / 2 ^ b)) + Tb.gs b N p0 (min j F) = Tb.gs b N p0 F := by
  rw [show min (j + 1) F = j + 1 by omega] at hg
  rw [show min j F = j by omega, ← hg]
  conv => rhs; unfold Tb.gs
  rw [hN]; omega
theorem gs_skip {b p0 j F g : Nat} {N : Nat → Nat} (hj : F ≤ j) (hg : g + Tb.gs b N p0 (min (j + 1) F) = Tb.gs b N p0 F) : g + Tb.gs b N p0 (min j F) = Tb.gs b N p0 F := by
  rw [show min j F = F by omega]; rw [show min (j + 1) F = F by omega] at hg; exact hg
theorem mk4_cell {G : Nat} (h : G < 256) : mk4 255 0 (G : Int) 0 = ((4278190080 + 256 * G : Nat) : Int) := by
  unfold mk4; omega
end Go.Proofs.Ytmgkdlkjcncniaa
