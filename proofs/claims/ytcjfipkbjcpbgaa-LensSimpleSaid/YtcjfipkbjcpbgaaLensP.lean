/- Plain theory of lengths of which one symbol, or two, have one. No program in sight. -/
import Derived.Test.YtcjfipkbjcpbgaaCodeP
namespace Go.Proofs.Ytcjfipkbjcpbgaa

theorem sumTo_hot {k a : Nat} {c : Int} {g : Nat → Int} (ha : a < k) (h : ∀ t, t < k → g t = if t = a then c else 0) : sumTo k g = c := by
  have e := sumTo_one (n := k) (f := fun _ => 0) (g := g) a ha (fun t ht hne => by rw [h t ht, if_neg hne])
  have z : ∀ n, sumTo n (fun _ => 0) = 0 := fun n => by induction n with | zero => rfl | succ n ih => rw [sumTo_succ, ih]; rfl
  rw [e, z, h a ha, if_pos rfl]; omega
theorem sumTo_hot2 {k a b : Nat} {c : Int} {g : Nat → Int} (ha : a < k) (hb : b < k) (hab : a ≠ b) (h : ∀ t, t < k → g t = if t = a ∨ t = b then c else 0) : sumTo k g = 2 * c := by
  have e := sumTo_one (n := k) (f := fun t => if t = a then c else 0) (g := g) b hb (fun t ht hne => by
    rw [h t ht]
    by_cases e : t = a
    · rw [if_pos e, if_pos (.inl e)]
    · rw [if_neg e, if_neg (fun h => h.elim e hne)])
  have z := sumTo_hot (k := k) (a := a) (c := c) (g := fun t => if t = a then c else 0) ha (fun _ _ => rfl)
  rw [e, z, h b hb, if_pos (.inr rfl), if_neg (fun h => hab h.symm)]; omega
theorem mn_sum (ls : List Int) (k : Nat) : (mnUp ls k : Int) = sumTo k (fun t => if 0 < ln ls t then 1 else 0) := by
  induction k with
  | zero => simp [mnUp, sumTo]
  | succ k ih => rw [mnUp_succ, sumTo_succ, ← ih]; split <;> omega
/-- Lengths 1 at a alone. -/
def Hot (k a : Nat) (ls : List Int) : Prop := ls.length = k ∧ a < k ∧ ∀ t, t < k → ln ls t = if t = a then 1 else 0
def Hot2 (k a b : Nat) (ls : List Int) : Prop := ls.length = k ∧ a < k ∧ b < k ∧ a ≠ b ∧ ∀ t, t < k → ln ls t = if t = a ∨ t = b then 1 else 0
theorem no_bad {ls : List Int} (h : ∀ t, t < ls.length → ln ls t = 0 ∨ ln ls t = 1) : ¬ ls.any badLen = true := by
  intro hc
  rw [List.any_eq_true] at hc
  obtain ⟨x, hx, hb⟩ := hc
  obtain ⟨t, ht, rfl⟩ := List.getElem_of_mem hx
  have := h t ht
  rw [ln_get ht] at this
  unfold badLen at hb
  rcases this with e | e <;> rw [e] at hb <;> simp at hb
theorem Hot.check {k a : Nat} {ls : List Int} (h : Hot k a ls) : checkS ls = 0 := by
  obtain ⟨hl, ha, hh⟩ := h
  have hm : many ls = 1 := by
    have := mn_sum ls k
    rw [sumTo_hot (a := a) (c := 1) ha (fun t ht => by rw [hh t ht]; split <;> simp)] at this
    unfold many; rw [hl]; omega
  unfold checkS
  rw [if_neg (no_bad (fun t ht => by rw [hh t (by omega)]; split <;> simp)), if_pos (.inl hm)]
theorem Hot2.check {k a b : Nat} {ls : List Int} (h : Hot2 k a b ls) : checkS ls = 0 := by
  obtain ⟨hl, ha, hb, hab, hh⟩ := h
  have hm : kraft ls = 32768 := by
    unfold kraft
    rw [hl, sumTo_hot2 (a := a) (b := b) (c := 16384) ha hb hab (fun t ht => by rw [hh t ht]; split <;> rfl)]
    rfl
  unfold checkS
  rw [if_neg (no_bad (fun t ht => by rw [hh t (by omega)]; split <;> simp)), if_pos (.inr hm)]
theorem Hot.sum {k a : Nat} {ls : List Int} (h : Hot k a ls) : sumTo k (ln ls) = 1 := sumTo_hot h.2.1 h.2.2
theorem Hot2.sum {k a b : Nat} {ls : List Int} (h : Hot2 k a b ls) : sumTo k (ln ls) = 2 := by
  have := sumTo_hot2 h.2.1 h.2.2.1 h.2.2.2.1 h.2.2.2.2
  omega
theorem hot_set (k a : Nat) (ha : a < k) : Hot k a ((List.replicate k (0 : Int)).set a 1) := by
  refine ⟨by simp, ha, fun t ht => ?_⟩
  unfold ln
  rw [List.getElem?_set]
  by_cases e : a = t
  · subst e; simp [ha]
  · rw [if_neg e, if_neg (fun h => e h.symm)]; simp [ht]
theorem hot2_set (k a b : Nat) (ha : a < k) (hb : b < k) (hab : a ≠ b) : Hot2 k a b (((List.replicate k (0 : Int)).set a 1).set b 1) := by
  have h := hot_set k a ha
  refine ⟨by simp, ha, hb, hab, fun t ht => ?_⟩
  have := h.2.2 t ht
  unfold ln at this ⊢
  rw [List.getElem?_set]
  by_cases e : b = t
  · subst e; simp [hb]
  · rw [if_neg e, this]
    by_cases e2 : t = a
    · rw [if_pos e2, if_pos (.inl e2)]
    · rw [if_neg e2, if_neg (fun h => h.elim e2 (fun h => e h.symm))]
end Go.Proofs.Ytcjfipkbjcpbgaa
