/- Plain: differences forth and back. -/
import Derived.Test.YtmgkdlkjcncniaaTab9
namespace Go.Proofs.Ytmgkdlkjcncniaa
open Go.RowKit

theorem partP_0 (p : Int) : partP p 0 = p / 16777216 % 256 := by simp [partP]
theorem partP_1 (p : Int) : partP p 1 = p / 65536 % 256 := by simp [partP]
theorem partP_2 (p : Int) : partP p 2 = p / 256 % 256 := by simp [partP]
theorem partP_3 (p : Int) : partP p 3 = p % 256 := by simp [partP]
theorem mk4_parts {p : Int} (h0 : 0 ≤ p) (h1 : p < 4294967296) {a b c d : Int} (ha : a % 256 = partP p 0) (hb : b % 256 = partP p 1) (hc : c % 256 = partP p 2) (hd : d % 256 = partP p 3) : mk4 a b c d = p := by
  rw [partP_0] at ha; rw [partP_1] at hb; rw [partP_2] at hc; rw [partP_3] at hd
  unfold mk4
  omega
theorem part_mk4 (a b c d : Int) : partP (mk4 a b c d) 0 = a % 256 ∧ partP (mk4 a b c d) 1 = b % 256 ∧ partP (mk4 a b c d) 2 = c % 256 ∧ partP (mk4 a b c d) 3 = d % 256 := by
  rw [partP_0, partP_1, partP_2, partP_3]
  unfold mk4
  refine ⟨?_, ?_, ?_, ?_⟩ <;> omega
theorem add_sub {a b : Int} (h0 : 0 ≤ a) (h1 : a < 4294967296) : addP (subP a b) b = a := by
  obtain ⟨e0, e1, e2, e3⟩ := part_mk4 (partP a 0 - partP b 0) (partP a 1 - partP b 1) (partP a 2 - partP b 2) (partP a 3 - partP b 3)
  have l0 := partP_lt a 0; have l1 := partP_lt a 1; have l2 := partP_lt a 2; have l3 := partP_lt a 3
  unfold addP
  refine mk4_parts h0 h1 ?_ ?_ ?_ ?_
  · unfold subP; rw [e0]; omega
  · unfold subP; rw [e1]; omega
  · unfold subP; rw [e2]; omega
  · unfold subP; rw [e3]; omega
theorem sub_add {a b : Int} (h0 : 0 ≤ a) (h1 : a < 4294967296) : subP (addP a b) b = a := by
  obtain ⟨e0, e1, e2, e3⟩ := part_mk4 (partP a 0 + partP b 0) (partP a 1 + partP b 1) (partP a 2 + partP b 2) (partP a 3 + partP b 3)
  have l0 := partP_lt a 0; have l1 := partP_lt a 1; have l2 := partP_lt a 2; have l3 := partP_lt a 3
  unfold subP
  refine mk4_parts h0 h1 ?_ ?_ ?_ ?_
  · unfold addP; rw [e0]; omega
  · unfold addP; rw [e1]; omega
  · unfold addP; rw [e2]; omega
  · unfold addP; rw [e3]; omega
theorem forS_getD (ls : List Int) (n j : Nat) (hj : j < n) : (forS ls n 0).getD j 0 = if 0 < j then subP (ls.getD j 0) (ls.getD (j - 1) 0) else ls.getD j 0 := by
  unfold forS; rw [getD_map_range n _ j hj]
theorem bakS_getD (ls : List Int) (n j : Nat) (hj : j < n) : (bakS ls n n).getD j 0 = bakP ls j := by
  unfold bakS; rw [getD_map_range n _ j hj, if_pos hj]
theorem back_forth (ls : List Int) (n : Nat) (hl : ls.length = n) (h : ∀ x ∈ ls, 0 ≤ x ∧ x < 4294967296) : bakS (forS ls n 0) n n = ls := by
  have key : ∀ j, j < n → bakP (forS ls n 0) j = ls.getD j 0 := by
    intro j
    induction j with
    | zero => intro hj; show (forS ls n 0).getD 0 0 = _; rw [forS_getD ls n 0 hj]; rfl
    | succ j ih =>
      intro hj
      show addP ((forS ls n 0).getD (j + 1) 0) (bakP (forS ls n 0) j) = _
      rw [ih (by omega), forS_getD ls n (j + 1) hj, if_pos (by omega)]
      obtain ⟨h0, h1⟩ := getD_room h (j + 1)
      exact add_sub h0 h1
  have : bakS (forS ls n 0) n n = (List.range n).map fun j => ls.getD j 0 := by
    unfold bakS
    apply List.map_congr_left
    intro j hj
    have := List.mem_range.1 hj
    rw [if_pos this, key j this]
  rw [this, list_of_getD ls n hl]
theorem forth_back (ls : List Int) (n : Nat) (hl : ls.length = n) (h : ∀ x ∈ ls, 0 ≤ x ∧ x < 4294967296) : forS (bakS ls n n) n 0 = ls := by
  have : forS (bakS ls n n) n 0 = (List.range n).map fun j => ls.getD j 0 := by
    unfold forS
    apply List.map_congr_left
    intro j hj
    have hj := List.mem_range.1 hj
    rw [bakS_getD ls n j hj]
    cases j with
    | zero => rfl
    | succ j =>
      rw [if_pos (by omega), bakS_getD ls n (j + 1 - 1) (by omega)]
      show subP (addP (ls.getD (j + 1) 0) (bakP ls j)) (bakP ls j) = _
      obtain ⟨h0, h1⟩ := getD_room h (j + 1)
      exact sub_add h0 h1
  rw [this, list_of_getD ls n hl]
end Go.Proofs.Ytmgkdlkjcncniaa
