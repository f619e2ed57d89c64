/- Plain: what a byte of a plane may be; filters forth and back. -/
namespace Go.Proofs.YtodpognmkbjlmaaGreatDoor.Alp

def cut (n : Int) : Int := if n < 0 then 0 else if 255 < n then 255 else n
/-- What the byte at a place may be, by the bytes ahead of it. -/
def gs (f W : Nat) (g : Nat → Int) (t : Nat) : Int :=
  if f = 0 ∨ t = 0 then 0
  else if t < W then g (t - 1)
  else if t % W = 0 then g (t - W)
  else if f = 1 then g (t - 1)
  else if f = 2 then g (t - W)
  else cut (g (t - 1) + g (t - W) - g (t - W - 1))
theorem gs_congr {f W : Nat} {g g' : Nat → Int} {t : Nat} (hW : 1 ≤ W) (h : ∀ j, j < t → g j = g' j) : gs f W g t = gs f W g' t := by
  unfold gs
  by_cases h0 : f = 0 ∨ t = 0
  · rw [if_pos h0, if_pos h0]
  rw [if_neg h0, if_neg h0]
  have ht : 0 < t := by omega
  by_cases h1 : t < W
  · rw [if_pos h1, if_pos h1, h (t - 1) (by omega)]
  rw [if_neg h1, if_neg h1, h (t - 1) (by omega), h (t - W) (by omega), h (t - W - 1) (by omega)]
theorem cut_le (n : Int) : 0 ≤ cut n ∧ cut n ≤ 255 := by unfold cut; split <;> (try split) <;> omega
theorem gs_le {f W : Nat} {g : Nat → Int} {t : Nat} (h : ∀ j, 0 ≤ g j ∧ g j ≤ 255) : 0 ≤ gs f W g t ∧ gs f W g t ≤ 255 := by
  unfold gs
  have h1 := h (t - 1); have h2 := h (t - W)
  have h3 := cut_le (g (t - 1) + g (t - W) - g (t - W - 1))
  split
  · omega
  split
  · exact h1
  split
  · exact h2
  split
  · exact h1
  split
  · exact h2
  · exact h3
/-- The bytes, each less what it may be. -/
def fo (f W : Nat) (a : List Int) (t : Nat) : Int := (a.getD t 0 - gs f W (fun j => a.getD j 0) t) % 256
def foL (f W : Nat) (a : List Int) (n : Nat) : List Int := (List.range n).map (fo f W a)
/-- As they were, the first ones. -/
def baL (f W : Nat) (b : List Int) : Nat → List Int
  | 0 => []
  | t + 1 => baL f W b t ++ [(b.getD t 0 + gs f W (fun j => (baL f W b t).getD j 0) t) % 256]
theorem baL_len (f W : Nat) (b : List Int) : ∀ t, (baL f W b t).length = t
  | 0 => rfl
  | t + 1 => by simp [baL, baL_len f W b t]
theorem getD_app {l m : List Int} {j : Nat} (h : j < l.length) : (l ++ m).getD j 0 = l.getD j 0 := by
  rw [List.getD_eq_getElem?_getD, List.getD_eq_getElem?_getD, List.getElem?_append_left h]
theorem baL_pre (f W : Nat) (b : List Int) {s j : Nat} (hj : j < s) : ∀ t, s ≤ t → (baL f W b t).getD j 0 = (baL f W b s).getD j 0 := by
  intro t h
  induction t with
  | zero => omega
  | succ t ih =>
    by_cases hs : s = t + 1
    · subst hs; rfl
    · show (baL f W b t ++ _).getD j 0 = _
      rw [getD_app (by rw [baL_len]; omega)]
      exact ih (by omega)
theorem baL_last (f W : Nat) (b : List Int) (t : Nat) : (baL f W b (t + 1)).getD t 0 = (b.getD t 0 + gs f W (fun j => (baL f W b t).getD j 0) t) % 256 := by
  show (baL f W b t ++ _).getD t 0 = _
  rw [List.getD_eq_getElem?_getD, List.getElem?_append_right (by rw [baL_len]; exact Nat.le_refl _), baL_len]
  simp
theorem baL_lt (f W : Nat) (b : List Int) : ∀ t, ∀ x ∈ baL f W b t, 0 ≤ x ∧ x ≤ 255
  | 0, x, h => by simp [baL] at h
  | t + 1, x, h => by
    rcases List.mem_append.1 h with h | h
    · exact baL_lt f W b t x h
    · rw [List.mem_singleton.1 h]; omega
theorem foL_lt (f W : Nat) (a : List Int) (n : Nat) : ∀ x ∈ foL f W a n, 0 ≤ x ∧ x ≤ 255 := by
  intro x h
  obtain ⟨t, _, rfl⟩ := List.mem_map.1 h
  unfold fo; omega
theorem foL_len (f W : Nat) (a : List Int) (n : Nat) : (foL f W a n).length = n := by simp [foL]
theorem foL_getD (f W : Nat) (a : List Int) {n t : Nat} (h : t < n) : (foL f W a n).getD t 0 = fo f W a t := by
  unfold foL; rw [List.getD_eq_getElem?_getD, List.getElem?_map, List.getElem?_range h]; rfl
theorem getD_take (a : List Int) {j t : Nat} (h : j < t) : (a.take t).getD j 0 = a.getD j 0 := by
  rw [List.getD_eq_getElem?_getD, List.getD_eq_getElem?_getD, List.getElem?_take_of_lt h]
theorem getD_255 {a : List Int} (h : ∀ x ∈ a, 0 ≤ x ∧ x ≤ 255) (j : Nat) : 0 ≤ a.getD j 0 ∧ a.getD j 0 ≤ 255 := by
  rw [List.getD_eq_getElem?_getD]
  by_cases hj : j < a.length
  · rw [List.getElem?_eq_getElem hj]; exact h _ (List.getElem_mem _)
  · rw [List.getElem?_eq_none (by omega)]; simp
theorem back_forth (f W : Nat) (a : List Int) {n : Nat} (hW : 1 ≤ W) (hn : a.length = n) (ha : ∀ x ∈ a, 0 ≤ x ∧ x ≤ 255) : baL f W (foL f W a n) n = a := by
  have key : ∀ t, t ≤ n → baL f W (foL f W a n) t = a.take t := by
    intro t
    induction t with
    | zero => intro _; rfl
    | succ t ih =>
      intro h
      show baL f W (foL f W a n) t ++ _ = _
      rw [ih (by omega), foL_getD f W a (by omega), gs_congr (g' := fun j => a.getD j 0) hW (fun j hj => getD_take a hj)]
      have hb := getD_255 ha t
      have e : (fo f W a t + gs f W (fun j => a.getD j 0) t) % 256 = a.getD t 0 := by unfold fo; omega
      rw [e, List.take_add_one, List.getElem?_eq_getElem (by omega), List.getD_eq_getElem?_getD, List.getElem?_eq_getElem (by omega)]; rfl
  rw [key n (Nat.le_refl _), List.take_of_length_le (by omega)]
theorem forth_back (f W : Nat) (b : List Int) {n : Nat} (hW : 1 ≤ W) (hn : b.length = n) (hb : ∀ x ∈ b, 0 ≤ x ∧ x ≤ 255) : foL f W (baL f W b n) n = b := by
  apply List.ext_getElem (by rw [foL_len, hn])
  intro t h1 h2
  have ht : t < n := by rw [foL_len] at h1; exact h1
  have e : (foL f W (baL f W b n) n).getD t 0 = b.getD t 0 := by
    rw [foL_getD f W _ ht]
    unfold fo
    rw [baL_pre f W b (s := t + 1) (by omega) n (by omega), baL_last, gs_congr (g := fun j => (baL f W b n).getD j 0) (g' := fun j => (baL f W b t).getD j 0) hW (fun j hj => baL_pre f W b hj n (by omega))]
    have := getD_255 hb t
    omega
  rw [List.getD_eq_getElem?_getD, List.getD_eq_getElem?_getD, List.getElem?_eq_getElem h1, List.getElem?_eq_getElem h2] at e
  exact e
end Go.Proofs.YtodpognmkbjlmaaGreatDoor.Alp
