/- Plain theory of codes, second part: symbols in order, and what their codes come to. No program in sight. -/
import Derived.Test.YtfeloicmkcfinaaDoorCodeP
namespace Go.Proofs.YtfeloicmkcfinaaDoor
open Srt

/-! ### The only symbol, by two looks -/
theorem nzUp_shift (ls : List Int) (a m : Nat) : nzUp ls (a + m) = nzUp ls a ++ (nzUp (ls.drop a) m).map (· + a) := by
  induction m with
  | zero => simp [nzUp]
  | succ m ih =>
    have e : ln (ls.drop a) m = ln ls (a + m) := by unfold ln; rw [List.getElem?_drop]
    rw [← Nat.add_assoc]
    by_cases h : ln ls (a + m) = 0
    · rw [nzUp_miss ls (a + m) h, nzUp_miss (ls.drop a) m (by rw [e]; exact h), ih]
    · rw [nzUp_hit ls (a + m) h, nzUp_hit (ls.drop a) m (by rw [e]; exact h), ih]
      simp [Nat.add_comm]
/-- Where the first length that is not 0 stands. -/
def firstNz (ls : List Int) : Int := match nonzero ls with | [] => -1 | i :: _ => (i : Int)
theorem firstNz_none {ls : List Int} (h : nzUp ls ls.length = []) : firstNz ls = -1 := by
  have : nonzero ls = [] := h
  unfold firstNz; rw [this]
theorem firstNz_some {ls : List Int} {k : Nat} (hk : k < ls.length) (h0 : nzUp ls k = []) (h1 : ln ls k ≠ 0) : firstNz ls = k ∧ nonzero ls = k :: (nonzero (ls.drop (k + 1))).map (· + (k + 1)) := by
  have e : nonzero ls = k :: (nonzero (ls.drop (k + 1))).map (· + (k + 1)) := by
    have h2 := nzUp_shift ls (k + 1) (ls.length - (k + 1))
    rw [show k + 1 + (ls.length - (k + 1)) = ls.length from by omega, nzUp_hit ls k h1, h0] at h2
    have h3 : nonzero (ls.drop (k + 1)) = nzUp (ls.drop (k + 1)) (ls.length - (k + 1)) := by unfold nonzero nzUp; rw [List.length_drop]
    rw [h3]
    exact h2
  refine ⟨?_, e⟩
  unfold firstNz; rw [e]
theorem firstNz_neg {ls : List Int} : firstNz ls < 0 ↔ nonzero ls = [] := by
  unfold firstNz
  cases h : nonzero ls with
  | nil => simp
  | cons i t => simp

/-! ### Symbols in order -/
/-- The symbols that have a length. -/
def posUp (ls : List Int) (k : Nat) : List Int := ((List.range k).filter (fun t => decide (0 < ln ls t))).map Int.ofNat
def posList (ls : List Int) : List Int := posUp ls ls.length
theorem posUp_hit (ls : List Int) (k : Nat) (h : 0 < ln ls k) : posUp ls (k + 1) = posUp ls k ++ [(k : Int)] := by simp [posUp, List.range_succ, List.filter_append, h]
theorem posUp_miss (ls : List Int) (k : Nat) (h : ¬ 0 < ln ls k) : posUp ls (k + 1) = posUp ls k := by simp [posUp, List.range_succ, List.filter_append, h]
theorem posUp_le (ls : List Int) (k : Nat) : (posUp ls k).length ≤ k := by
  have := List.length_filter_le (fun t => decide (0 < ln ls t)) (List.range k)
  simpa [posUp] using this
theorem posUp_mem {ls : List Int} {k : Nat} {x : Int} (h : x ∈ posUp ls k) : 0 ≤ x ∧ x < k ∧ 0 < ln ls x.toNat := by
  unfold posUp at h
  rw [List.mem_map] at h
  obtain ⟨t, ht, rfl⟩ := h
  rw [List.mem_filter, List.mem_range] at ht
  simp at ht ⊢
  exact ht
theorem posUp_lt (ls : List Int) (k : Nat) : (posUp ls k).Pairwise (· < ·) := by
  unfold posUp
  rw [List.pairwise_map]
  have h := List.Pairwise.filter (fun t => decide (0 < ln ls t)) (List.pairwise_lt_range (n := k))
  exact h.imp (fun h => by simpa using h)
/-- A symbol's key. -/
def keyL (ls : List Int) (x : Int) : Int := ln ls x.toNat
/-- os are the symbols that have a length, the shorter ones first. -/
def InOrder (ls os : List Int) : Prop := Sorted (keyL ls) os ∧ FEq (keyL ls) (posList ls) os

theorem lex_of {α : Type} {key : α → Int} {R : α → α → Prop} : ∀ {l : List α}, Sorted key l → (∀ k, (l.filter (fun x => key x == k)).Pairwise R) → l.Pairwise (fun x y => key x < key y ∨ key x = key y ∧ R x y) := by
  intro l
  induction l with
  | nil => intro _ _; exact List.Pairwise.nil
  | cons x l ih =>
    intro h hr
    unfold Sorted at h
    rw [List.pairwise_cons] at h
    refine List.pairwise_cons.2 ⟨fun y hy => ?_, ih h.2 (fun k => ?_)⟩
    · have h1 := h.1 y hy
      by_cases e : key x = key y
      · right
        refine ⟨e, ?_⟩
        have h2 := hr (key x)
        rw [List.filter_cons, if_pos (by simp)] at h2
        exact (List.pairwise_cons.1 h2).1 y (by rw [List.mem_filter]; exact ⟨hy, by simp [e]⟩)
      · left; omega
    · have h2 := hr k
      rw [List.filter_cons] at h2
      split at h2
      · exact (List.pairwise_cons.1 h2).2
      · exact h2
theorem FEq.perm {α : Type} [BEq α] [LawfulBEq α] {key : α → Int} {a b : List α} (h : FEq key a b) : a.Perm b := by
  rw [List.perm_iff_count]
  intro x
  have e : ∀ l : List α, l.count x = (l.filter (fun y => key y == key x)).count x := fun l => by
    rw [List.count_filter]; simp
  rw [e a, e b, h (key x)]
theorem InOrder.mem {ls os : List Int} (h : InOrder ls os) {x : Int} (hx : x ∈ os) : 0 ≤ x ∧ x < ls.length ∧ 0 < ln ls x.toNat := posUp_mem ((h.2.mem x).2 hx)
theorem InOrder.lex {ls os : List Int} (h : InOrder ls os) : os.Pairwise (fun x y => keyL ls x < keyL ls y ∨ keyL ls x = keyL ls y ∧ x < y) := by
  refine lex_of h.1 (fun k => ?_)
  rw [← h.2 k]
  exact List.Pairwise.filter _ (posUp_lt ls ls.length)

/-- The code of a symbol out of those that stand ahead of it. -/
def csum (ls pre : List Int) (s : Int) : Int := (pre.map (fun t => (2 : Int) ^ (keyL ls s - keyL ls t).toNat)).sum
theorem csum_next (ls pre : List Int) (p s : Int) (h : ∀ t ∈ pre, keyL ls t ≤ keyL ls p) (hp : keyL ls p ≤ keyL ls s) : csum ls (pre ++ [p]) s = (csum ls pre p + 1) * 2 ^ (keyL ls s - keyL ls p).toNat := by
  have h1 : csum ls pre s = csum ls pre p * 2 ^ (keyL ls s - keyL ls p).toNat := by
    unfold csum
    induction pre with
    | nil => simp
    | cons t pre ih =>
      have ht := h t (by simp)
      rw [List.map_cons, List.sum_cons, List.map_cons, List.sum_cons, Int.add_mul, ih (fun t ht => h t (by simp [ht])), ← Int.pow_add, show (keyL ls s - keyL ls t).toNat = (keyL ls p - keyL ls t).toNat + (keyL ls s - keyL ls p).toNat from by omega]
  have h2 : csum ls (pre ++ [p]) s = csum ls pre s + 2 ^ (keyL ls s - keyL ls p).toNat := by
    unfold csum
    rw [List.map_append, List.sum_append]; simp
  rw [h2, h1, Int.add_mul, Int.one_mul]
theorem perm_sum {a b : List Int} (h : a.Perm b) : a.sum = b.sum := by
  induction h with
  | nil => rfl
  | cons x _ ih => simp [ih]
  | swap x y l => simp only [List.sum_cons]; omega
  | trans _ _ ih1 ih2 => exact ih1.trans ih2
theorem codeS_pre {ls pre post : List Int} {s : Int} (h : InOrder ls (pre ++ s :: post)) : codeS ls s.toNat = csum ls pre s := by
  have hl := h.lex
  rw [List.pairwise_append, List.pairwise_cons] at hl
  obtain ⟨_, ⟨h2, _⟩, h3⟩ := hl
  have hs := h.mem (x := s) (by simp)
  have e1 : (pre ++ s :: post).filter (fun x => ahead ls x.toNat s.toNat) = pre := by
    have a1 : pre.filter (fun x => ahead ls x.toNat s.toNat) = pre := by
      rw [List.filter_eq_self]
      intro x hx
      have hm := h.mem (x := x) (by simp [hx])
      have := h3 x hx s (by simp)
      unfold keyL at this
      simp only [ahead, Bool.and_eq_true, Bool.or_eq_true, decide_eq_true_eq]
      omega
    have a2 : (s :: post).filter (fun x => ahead ls x.toNat s.toNat) = [] := by
      rw [List.filter_eq_nil_iff]
      intro x hx hc
      simp only [ahead, Bool.and_eq_true, Bool.or_eq_true, decide_eq_true_eq] at hc
      rcases List.mem_cons.1 hx with e | e
      · subst e; omega
      · have := h2 x e
        have hm := h.mem (x := x) (by simp [e])
        unfold keyL at this
        omega
    rw [List.filter_append, a1, a2, List.append_nil]
  have e2 : (posList ls).filter (fun x => ahead ls x.toNat s.toNat) = ((List.range ls.length).filter (fun t => ahead ls t s.toNat)).map Int.ofNat := by
    unfold posList posUp
    rw [List.filter_map, List.filter_filter]
    congr 1
    apply List.filter_congr
    intro t _
    simp only [Function.comp, Int.ofNat_eq_natCast, Int.toNat_natCast]
    unfold ahead
    cases decide (0 < ln ls t) <;> simp
  have hp := (FEq.perm h.2).filter (fun x => ahead ls x.toNat s.toNat)
  rw [e1, e2] at hp
  have h4 := perm_sum (hp.map (fun t => (2 : Int) ^ (keyL ls s - keyL ls t).toNat))
  unfold codeS csum
  rw [← h4, List.map_map, ← sum_filter]
  rfl
theorem csum_nil (ls : List Int) (s : Int) : csum ls [] s = 0 := rfl
end Go.Proofs.YtfeloicmkcfinaaDoor
