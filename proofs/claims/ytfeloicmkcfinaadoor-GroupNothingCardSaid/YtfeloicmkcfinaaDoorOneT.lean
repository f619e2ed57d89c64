/- Plain: lengths of which one symbol alone has one. -/
import Derived.Test.YtfeloicmkcfinaaDoorCodeP4
namespace Go.Proofs.YtfeloicmkcfinaaDoor

theorem lnO_rep (k t : Nat) : ln (List.replicate k 0) t = 0 := by
  unfold ln
  by_cases h : t < k
  · rw [List.getElem?_replicate, if_pos h]; rfl
  · rw [List.getElem?_replicate, if_neg h]; rfl
theorem lnO_one (k i : Nat) (x : Int) (hi : i < k) (t : Nat) : ln ((List.replicate k 0).set i x) t = if t = i then x else 0 := by
  by_cases e : i = t
  · subst e; unfold ln; rw [List.getElem?_set]; simp [hi]
  · rw [if_neg (fun h => e h.symm)]
    have := lnO_rep k t
    unfold ln at this ⊢
    rw [List.getElem?_set, if_neg e]; exact this
theorem manyO_one (ls : List Int) (i : Nat) (hi : i < ls.length) (h1 : 0 < ln ls i) (h : ∀ t, t ≠ i → ln ls t = 0) : many ls = 1 :=
  cnt_one (fun t => decide (0 < ln ls t)) ls.length i hi (by simpa using h1) (fun t _ hp => by
    by_cases e : t = i
    · exact e
    · have := h t e; simp at hp; omega)
/-- Lengths of one symbol. -/
theorem oneH_tree (k i : Nat) (x : Int) (hi : i < k) (h1 : 1 ≤ x) (h2 : x ≤ 15) : checkS ((List.replicate k 0).set i x) = 0 ∧ oneS ((List.replicate k 0).set i x) = ((i : Int), true) := by
  have hl := lnO_one k i x hi
  have hlen : ((List.replicate k (0 : Int)).set i x).length = k := by simp
  have hm : many ((List.replicate k 0).set i x) = 1 := manyO_one _ i (by rw [hlen]; exact hi) (by rw [hl, if_pos rfl]; omega) (fun t ht => by rw [hl, if_neg ht])
  have hb : ((List.replicate k 0).set i x).any badLen = false := by
    rw [List.any_eq_false]
    intro y hy
    obtain ⟨t, ht, rfl⟩ := List.getElem_of_mem hy
    have := hl t
    rw [ln_get ht] at this
    rw [this]; simp [badLen]; split <;> omega
  have hc : checkS ((List.replicate k 0).set i x) = 0 := by
    unfold checkS
    rw [if_neg (by rw [hb]; simp), if_pos (.inl hm)]
  refine ⟨hc, ?_⟩
  have hn := nonzero_many (ls := (List.replicate k 0).set i x) (fun t => ((complete hc).1 t).1)
  rw [hm] at hn
  obtain ⟨j, hj⟩ := List.length_eq_one_iff.1 hn
  have hmem : i ∈ nonzero ((List.replicate k 0).set i x) := by
    unfold nonzero
    rw [List.mem_filter, List.mem_range, hlen]
    exact ⟨hi, by rw [hl, if_pos rfl]; simp; omega⟩
  rw [hj] at hmem
  obtain rfl : i = j := by simpa using hmem
  unfold oneS; rw [hj]; rfl
end Go.Proofs.YtfeloicmkcfinaaDoor
