/- Plain theory of bits as bytes: writing. No program in sight. -/
import Derived.Test.YtfeloicmkcfinaaDoorBitsP
namespace Go.Proofs.YtfeloicmkcfinaaDoor

def bl (l : List Int) (i : Nat) : Int := l[i]?.getD 0
def lv (l : List Int) (p : Nat) : Nat → Int
  | 0 => 0
  | n + 1 => lv l p n + bl l (p + n) * 2 ^ n
def IsBits (l : List Int) : Prop := ∀ x ∈ l, 0 ≤ x ∧ x ≤ 1
theorem bl_bounds {l : List Int} (h : IsBits l) (i : Nat) : 0 ≤ bl l i ∧ bl l i ≤ 1 := by
  unfold bl
  by_cases hi : i < l.length
  · rw [List.getElem?_eq_getElem hi]; exact h _ (List.getElem_mem _)
  · rw [List.getElem?_eq_none (by omega)]; simp
theorem lv_bounds {l : List Int} (h : IsBits l) (p n : Nat) : 0 ≤ lv l p n ∧ lv l p n < 2 ^ n := by
  induction n with
  | zero => simp [lv]
  | succ n ih =>
    have h1 := bl_bounds h (p + n)
    have h2 : (0 : Int) ≤ 2 ^ n := by exact_mod_cast Nat.zero_le _
    have h3 := Int.mul_le_mul_of_nonneg_right h1.2 h2
    have h4 := Int.mul_nonneg h1.1 h2
    simp only [lv, Int.pow_succ]; omega
theorem bl_app_old (l : List Int) (b : Int) (i : Nat) (h : i < l.length) : bl (l ++ [b]) i = bl l i := by unfold bl; rw [List.getElem?_append_left h]
theorem bl_app_new (l : List Int) (b : Int) : bl (l ++ [b]) l.length = b := by unfold bl; rw [List.getElem?_append_right (Nat.le_refl _)]; simp
theorem bl_out (l : List Int) (i : Nat) (h : l.length ≤ i) : bl l i = 0 := by unfold bl; rw [List.getElem?_eq_none h]; rfl
theorem lv_app_old (l : List Int) (b : Int) (p n : Nat) (h : p + n ≤ l.length) : lv (l ++ [b]) p n = lv l p n := by
  induction n with
  | zero => rfl
  | succ n ih => simp only [lv, ih (by omega), bl_app_old l b (p + n) (by omega)]
theorem lv_end (l : List Int) (p n m : Nat) (h : l.length ≤ p + n) (hm : n ≤ m) : lv l p m = lv l p n := by
  induction m with
  | zero => rw [show n = 0 by omega]
  | succ m ih =>
    by_cases e : n = m + 1
    · rw [e]
    · simp only [lv, ih (by omega), bl_out l (p + m) (by omega)]; simp
def byteAt (l : List Int) (i : Nat) : Int := lv l (8 * i) 8
def packB (l : List Int) : List Int := (List.range ((l.length + 7) / 8)).map (byteAt l)
theorem packB_length (l : List Int) : (packB l).length = (l.length + 7) / 8 := by simp [packB]
theorem packB_get (l : List Int) (i : Nat) (h : i < (l.length + 7) / 8) : (packB l)[i]? = some (byteAt l i) := by
  simp [packB, List.getElem?_map, List.getElem?_range h]
theorem packB_nil : packB [] = [] := rfl
/-- The last byte, and a bit more. -/
theorem byteAt_next (l : List Int) (b : Int) : byteAt (l ++ [b]) (l.length / 8) = byteAt l (l.length / 8) + b * 2 ^ (l.length % 8) := by
  unfold byteAt
  have h1 : lv l (8 * (l.length / 8)) 8 = lv l (8 * (l.length / 8)) (l.length % 8) := lv_end l _ _ _ (by omega) (by omega)
  have h2 : lv (l ++ [b]) (8 * (l.length / 8)) 8 = lv (l ++ [b]) (8 * (l.length / 8)) (l.length % 8 + 1) := lv_end _ _ _ _ (by simp; omega) (by omega)
  rw [h1, h2]
  show lv (l ++ [b]) (8 * (l.length / 8)) (l.length % 8) + bl (l ++ [b]) (8 * (l.length / 8) + l.length % 8) * 2 ^ (l.length % 8) = _
  rw [lv_app_old l b _ _ (by omega), show 8 * (l.length / 8) + l.length % 8 = l.length from by omega, bl_app_new]
theorem byteAt_old (l : List Int) (b : Int) (i : Nat) (_ : i ≠ l.length / 8) (hi : i < l.length / 8) : byteAt (l ++ [b]) i = byteAt l i := by
  unfold byteAt
  exact lv_app_old l b _ _ (by omega)
/-- A bit more, behind a byte that is not full. -/
theorem packB_more (l : List Int) (b : Int) (h : l.length % 8 ≠ 0) : (packB l).set (l.length / 8) (byteAt l (l.length / 8) + b * 2 ^ (l.length % 8)) = packB (l ++ [b]) := by
  apply List.ext_getElem?
  intro i
  have hlen : ((l ++ [b]).length + 7) / 8 = (l.length + 7) / 8 := by simp; omega
  by_cases hi : i < (l.length + 7) / 8
  · rw [packB_get _ i (by rw [hlen]; exact hi), List.getElem?_set, packB_get _ i hi, packB_length]
    by_cases e : l.length / 8 = i
    · rw [if_pos e, if_pos (by omega), ← e, byteAt_next]
    · rw [if_neg e, byteAt_old l b i (fun h => e h.symm) (by omega)]
  · rw [List.getElem?_eq_none (by rw [List.length_set, packB_length]; omega), List.getElem?_eq_none (by rw [packB_length, hlen]; omega)]
/-- A bit more, in a new byte. -/
theorem packB_new (l : List Int) (b : Int) (h : l.length % 8 = 0) : (packB l ++ [0]).set (l.length / 8) b = packB (l ++ [b]) := by
  apply List.ext_getElem?
  intro i
  have hlen : ((l ++ [b]).length + 7) / 8 = (l.length + 7) / 8 + 1 := by simp; omega
  have e8 : (l.length + 7) / 8 = l.length / 8 := by omega
  by_cases hi : i < (l.length + 7) / 8 + 1
  · rw [packB_get _ i (by rw [hlen]; exact hi), List.getElem?_set]
    by_cases e : l.length / 8 = i
    · rw [if_pos e, if_pos (by simp [packB_length]; omega), ← e, byteAt_next, h]
      have : byteAt l (l.length / 8) = 0 := by
        unfold byteAt
        exact lv_end l (8 * (l.length / 8)) 0 8 (by omega) (by omega)
      rw [this]; simp
    · rw [if_neg e, byteAt_old l b i (fun h => e h.symm) (by omega), List.getElem?_append_left (by rw [packB_length]; omega), packB_get _ i (by omega)]
  · rw [List.getElem?_eq_none (by simp [packB_length]; omega), List.getElem?_eq_none (by rw [packB_length, hlen]; omega)]
theorem byteAt_bounds {l : List Int} (h : IsBits l) (i : Nat) : 0 ≤ byteAt l i ∧ byteAt l i ≤ 255 := by have := lv_bounds h (8 * i) 8; unfold byteAt; omega
theorem packB_bytes {l : List Int} (h : IsBits l) : ∀ x ∈ packB l, 0 ≤ x ∧ x ≤ 255 := by
  intro x hx
  unfold packB at hx
  rw [List.mem_map] at hx
  obtain ⟨i, _, rfl⟩ := hx
  exact byteAt_bounds h i
theorem byteAt_low {l : List Int} (h : IsBits l) : byteAt l (l.length / 8) < 2 ^ (l.length % 8) := by
  unfold byteAt
  rw [lv_end l (8 * (l.length / 8)) (l.length % 8) 8 (by omega) (by omega)]
  exact (lv_bounds h _ _).2
theorem lv_split {l : List Int} (h : IsBits l) (p : Nat) : ∀ n k, k < n → lv l p n / 2 ^ k % 2 = bl l (p + k) := by
  intro n
  induction n with
  | zero => intro k hk; omega
  | succ n ih =>
    intro k hk
    have hb := bl_bounds h (p + n)
    by_cases e : k = n
    · subst e
      simp only [lv]
      have h1 := lv_bounds h p k
      have hp : (0 : Int) < 2 ^ k := by exact_mod_cast Nat.two_pow_pos k
      rw [Int.add_mul_ediv_right _ _ (by omega), Int.ediv_eq_zero_of_lt h1.1 h1.2]; omega
    · have := ih k (by omega)
      simp only [lv]
      have hp : (0 : Int) < 2 ^ k := by exact_mod_cast Nat.two_pow_pos k
      have e2 : bl l (p + n) * 2 ^ n = (bl l (p + n) * 2 ^ (n - k - 1) * 2) * 2 ^ k := by
        rw [show n = (n - k - 1) + 1 + k from by omega, Int.pow_add, Int.pow_succ]
        rw [show n - k - 1 + 1 + k - k - 1 = n - k - 1 from by omega]
        simp only [Int.mul_assoc]
      rw [e2, Int.add_mul_ediv_right _ _ (by omega)]
      omega
/-- The bits of written bytes. -/
theorem bitAt_pack {l : List Int} (h : IsBits l) (i : Nat) : bitAt (packB l) i = bl l i := by
  unfold bitAt
  by_cases hi : i / 8 < (l.length + 7) / 8
  · rw [packB_get l _ hi]
    show byteAt l (i / 8) / 2 ^ (i % 8) % 2 = _
    unfold byteAt
    rw [lv_split h _ 8 (i % 8) (by omega), show 8 * (i / 8) + i % 8 = i from by omega]
  · rw [List.getElem?_eq_none (by rw [packB_length]; omega), bl_out l i (by omega)]
    simp
/-- A number's n lowest bits, the first one lowest. -/
def bitsOf (v : Int) (n : Nat) : List Int := (List.range n).map (fun k => v / 2 ^ k % 2)
theorem bitsOf_length (v : Int) (n : Nat) : (bitsOf v n).length = n := by simp [bitsOf]
theorem bitsOf_succ (v : Int) (n : Nat) : bitsOf v (n + 1) = bitsOf v n ++ [v / 2 ^ n % 2] := by simp [bitsOf, List.range_succ]
theorem bitsOf_bits (v : Int) (n : Nat) : IsBits (bitsOf v n) := by
  intro x hx
  unfold bitsOf at hx
  rw [List.mem_map] at hx
  obtain ⟨k, _, rfl⟩ := hx
  omega
theorem IsBits.app {l m : List Int} (h : IsBits l) (k : IsBits m) : IsBits (l ++ m) := by
  intro x hx
  rcases List.mem_append.1 hx with h1 | h1
  · exact h x h1
  · exact k x h1
end Go.Proofs.YtfeloicmkcfinaaDoor
