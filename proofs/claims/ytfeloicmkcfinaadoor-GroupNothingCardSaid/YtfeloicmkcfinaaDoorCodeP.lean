/- Plain theory of codes: completeness, the only symbol, canonical codes. No program in sight. -/
import Derived.Test.YtfeloicmkcfinaaDoorSortP
namespace Go.Proofs.YtfeloicmkcfinaaDoor
open Srt

/-! ### Sums -/
def sumTo (n : Nat) (f : Nat → Int) : Int := ((List.range n).map f).sum
theorem sumTo_zero (f : Nat → Int) : sumTo 0 f = 0 := rfl
theorem sumTo_succ (n : Nat) (f : Nat → Int) : sumTo (n + 1) f = sumTo n f + f n := by
  simp [sumTo, List.range_succ]
theorem sumTo_congr {n : Nat} {f g : Nat → Int} (h : ∀ t, t < n → f t = g t) : sumTo n f = sumTo n g := by
  induction n with
  | zero => rfl
  | succ n ih => rw [sumTo_succ, sumTo_succ, ih (fun t ht => h t (by omega)), h n (by omega)]
theorem sumTo_le {n : Nat} {f g : Nat → Int} (h : ∀ t, t < n → f t ≤ g t) : sumTo n f ≤ sumTo n g := by
  induction n with
  | zero => simp [sumTo]
  | succ n ih => rw [sumTo_succ, sumTo_succ]; have := ih (fun t ht => h t (by omega)); have := h n (by omega); omega
theorem sumTo_nonneg {n : Nat} {f : Nat → Int} (h : ∀ t, t < n → 0 ≤ f t) : 0 ≤ sumTo n f := by
  induction n with
  | zero => simp [sumTo]
  | succ n ih => rw [sumTo_succ]; have := ih (fun t ht => h t (by omega)); have := h n (by omega); omega
theorem sumTo_mul (n : Nat) (f : Nat → Int) (c : Int) : sumTo n f * c = sumTo n (fun t => f t * c) := by
  induction n with
  | zero => simp [sumTo]
  | succ n ih => rw [sumTo_succ, sumTo_succ, Int.add_mul, ih]
theorem sumTo_add (n : Nat) (f g : Nat → Int) : sumTo n f + sumTo n g = sumTo n (fun t => f t + g t) := by
  induction n with
  | zero => simp [sumTo]
  | succ n ih => rw [sumTo_succ, sumTo_succ, sumTo_succ, ← ih]; omega
/-- One term more. -/
theorem sumTo_one {n : Nat} {f g : Nat → Int} (i : Nat) (hi : i < n) (h : ∀ t, t < n → t ≠ i → f t = g t) : sumTo n g = sumTo n f + (g i - f i) := by
  induction n with
  | zero => omega
  | succ n ih =>
    rw [sumTo_succ, sumTo_succ]
    by_cases e : i = n
    · subst e
      rw [sumTo_congr (fun t ht => (h t (by omega) (by omega)).symm)]; omega
    · rw [ih (by omega) (fun t ht hne => h t (by omega) hne), h n (by omega) (by omega)]; omega
theorem sum_filter (n : Nat) (p : Nat → Bool) (f : Nat → Int) : (((List.range n).filter p).map f).sum = sumTo n (fun t => if p t then f t else 0) := by
  induction n with
  | zero => simp [sumTo]
  | succ n ih =>
    rw [sumTo_succ, List.range_succ, List.filter_append, List.map_append, List.sum_append, ih]
    by_cases h : p n <;> simp [h]

/-! ### Lengths -/
/-- The length of symbol t. -/
def ln (ls : List Int) (t : Nat) : Int := ls[t]?.getD 0
def wgt (n : Int) : Int := if 0 < n then 2 ^ (15 - n.toNat) else 0
theorem wgt_nonneg (n : Int) : 0 ≤ wgt n := by unfold wgt; split; exact Int.le_of_lt (Int.pow_pos (by decide)); omega
theorem wgt_le (n : Int) : wgt n ≤ 16384 := by
  unfold wgt
  split
  · have : (2 : Int) ^ (15 - n.toNat) ≤ 2 ^ 14 := by exact_mod_cast Nat.pow_le_pow_right (by decide) (by omega)
    omega
  · omega
def kraft (ls : List Int) : Int := sumTo ls.length (fun t => wgt (ln ls t))
def krUp (ls : List Int) (k : Nat) : Int := sumTo k (fun t => wgt (ln ls t))
def mnUp (ls : List Int) (k : Nat) : Nat := (List.range k).countP (fun t => decide (0 < ln ls t))
def many (ls : List Int) : Nat := mnUp ls ls.length
theorem mnUp_succ (ls : List Int) (k : Nat) : mnUp ls (k + 1) = mnUp ls k + if 0 < ln ls k then 1 else 0 := by
  unfold mnUp
  rw [List.range_succ, List.countP_append]
  by_cases h : 0 < ln ls k <;> simp [h]
theorem mnUp_le (ls : List Int) (k : Nat) : mnUp ls k ≤ k := by
  induction k with
  | zero => simp [mnUp]
  | succ k ih => rw [mnUp_succ]; split <;> omega
theorem krUp_succ (ls : List Int) (k : Nat) : krUp ls (k + 1) = krUp ls k + wgt (ln ls k) := sumTo_succ _ _
theorem krUp_bounds (ls : List Int) (k : Nat) : 0 ≤ krUp ls k ∧ krUp ls k ≤ 16384 * k := by
  induction k with
  | zero => simp [krUp, sumTo]
  | succ k ih => rw [krUp_succ]; have := wgt_nonneg (ln ls k); have := wgt_le (ln ls k); omega
/-- Is a length none that may be? -/
def badLen (n : Int) : Bool := decide (n < 0) || decide (15 < n)
/-- Are lengths complete? An error's number. -/
def checkS (ls : List Int) : Int := if ls.any badLen then 8 else if many ls = 1 ∨ kraft ls = 32768 then 0 else 3
theorem ln_get {ls : List Int} {t : Nat} (h : t < ls.length) : ln ls t = ls[t] := by simp [ln, h]
theorem ln_mem {ls : List Int} {t : Nat} (h : t < ls.length) : ln ls t ∈ ls := by rw [ln_get h]; exact List.getElem_mem _
theorem any_up (ls : List Int) (k : Nat) (hk : k < ls.length) : (ls.take (k + 1)).any badLen = ((ls.take k).any badLen || badLen (ln ls k)) := by
  rw [List.take_add_one, List.getElem?_eq_getElem hk, List.any_append, ln_get hk]; simp

/-! ### The only symbol -/
def nonzero (ls : List Int) : List Nat := (List.range ls.length).filter (fun t => ln ls t != 0)
def hd0 : List Nat → Nat | [] => 0 | x :: _ => x
def oneOf (l : List Nat) : Int × Bool := match l with | [i] => ((i : Int), true) | _ => (0, false)
def oneS (ls : List Int) : Int × Bool := oneOf (nonzero ls)

/-! ### Canonical codes -/
/-- t comes ahead of s. -/
def ahead (ls : List Int) (t s : Nat) : Bool := decide (0 < ln ls t) && (decide (ln ls t < ln ls s) || decide (ln ls t = ln ls s) && decide (t < s))
def codeS (ls : List Int) (s : Nat) : Int := sumTo ls.length (fun t => if ahead ls t s then 2 ^ (ln ls s - ln ls t).toNat else 0)
def codesS (ls : List Int) : List Int := (List.range ls.length).map fun s => if 0 < ln ls s then codeS ls s else 0
theorem codesS_length (ls : List Int) : (codesS ls).length = ls.length := by simp [codesS]
theorem codesS_get (ls : List Int) (s : Nat) (h : s < ls.length) : (codesS ls)[s]? = some (if 0 < ln ls s then codeS ls s else 0) := by
  simp [codesS, List.getElem?_map, List.getElem?_range h]

/-- What codes of n bits come to, when symbols below i of that length, and all shorter ones, have theirs. -/
def upTo (ls : List Int) (n : Int) (i : Nat) : Int := sumTo ls.length (fun t => if 0 < ln ls t ∧ (ln ls t < n ∨ ln ls t = n ∧ t < i) then 2 ^ (n - ln ls t).toNat else 0)
theorem upTo_nonneg (ls : List Int) (n : Int) (i : Nat) : 0 ≤ upTo ls n i := sumTo_nonneg (fun t _ => by split; exact Int.le_of_lt (Int.pow_pos (by decide)); omega)
theorem upTo_code (ls : List Int) (s : Nat) : upTo ls (ln ls s) s = codeS ls s := by
  unfold upTo codeS
  refine sumTo_congr fun t _ => ?_
  by_cases h : 0 < ln ls t ∧ (ln ls t < ln ls s ∨ ln ls t = ln ls s ∧ t < s)
  · rw [if_pos h, if_pos (by simp [ahead]; exact h)]
  · rw [if_neg h, if_neg (fun hc => h (by simp [ahead] at hc; omega))]
theorem upTo_hit (ls : List Int) (n : Int) (i : Nat) (hi : i < ls.length) (hn : 0 < n) (h : ln ls i = n) : upTo ls n (i + 1) = upTo ls n i + 1 := by
  unfold upTo
  rw [sumTo_one (f := fun t => if 0 < ln ls t ∧ (ln ls t < n ∨ ln ls t = n ∧ t < i) then 2 ^ (n - ln ls t).toNat else 0) i hi]
  · simp only [h]
    have e1 : 0 < n ∧ (n < n ∨ True ∧ i < i + 1) := by simp; exact hn
    simp only [e1, Int.sub_self]
    simp
  · intro t ht hne
    have : (0 < ln ls t ∧ (ln ls t < n ∨ ln ls t = n ∧ t < i)) ↔ (0 < ln ls t ∧ (ln ls t < n ∨ ln ls t = n ∧ t < i + 1)) := by constructor <;> intro a <;> omega
    simp only [this]
theorem upTo_miss (ls : List Int) (n : Int) (i : Nat) (h : ln ls i ≠ n) : upTo ls n (i + 1) = upTo ls n i := by
  unfold upTo
  refine sumTo_congr fun t _ => ?_
  have : (0 < ln ls t ∧ (ln ls t < n ∨ ln ls t = n ∧ t < i + 1)) ↔ (0 < ln ls t ∧ (ln ls t < n ∨ ln ls t = n ∧ t < i)) := by
    by_cases e : t = i
    · subst e; constructor <;> intro a <;> omega
    · constructor <;> intro a <;> omega
  simp only [this]
theorem upTo_next (ls : List Int) (n : Int) : upTo ls (n + 1) 0 = upTo ls n ls.length * 2 := by
  unfold upTo
  rw [sumTo_mul]
  refine sumTo_congr fun t ht => ?_
  by_cases h : 0 < ln ls t ∧ (ln ls t < n ∨ ln ls t = n ∧ t < ls.length)
  · rw [if_pos h, if_pos (by omega), show (n + 1 - ln ls t).toNat = (n - ln ls t).toNat + 1 from by omega, Int.pow_succ]
  · rw [if_neg h, if_neg (by omega)]; simp
theorem upTo_zero (ls : List Int) : upTo ls 0 ls.length = 0 := by
  unfold upTo
  have : sumTo ls.length (fun t => if 0 < ln ls t ∧ (ln ls t < 0 ∨ ln ls t = 0 ∧ t < ls.length) then 2 ^ (0 - ln ls t).toNat else 0) = sumTo ls.length (fun _ => 0) := sumTo_congr fun t _ => by rw [if_neg (by omega)]
  rw [this]
  have : ∀ n, sumTo n (fun _ => 0) = 0 := by intro n; induction n with | zero => rfl | succ n ih => rw [sumTo_succ, ih]; rfl
  exact this _
theorem upTo_kraft (ls : List Int) (n : Nat) (i : Nat) (hn : n ≤ 15) : upTo ls n i * 2 ^ (15 - n) ≤ kraft ls := by
  unfold upTo kraft
  rw [sumTo_mul]
  refine sumTo_le fun t _ => ?_
  have := wgt_nonneg (ln ls t)
  by_cases h : 0 < ln ls t ∧ (ln ls t < n ∨ ln ls t = n ∧ t < i)
  · rw [if_pos h, ← Int.pow_add]
    unfold wgt
    rw [if_pos h.1, show ((n : Int) - ln ls t).toNat + (15 - n) = 15 - (ln ls t).toNat from by omega]
    exact Int.le_refl _
  · rw [if_neg h]; simpa using this

theorem krUp_many (ls : List Int) (k : Nat) : krUp ls k ≤ 16384 * mnUp ls k := by
  induction k with
  | zero => simp [krUp, mnUp, sumTo]
  | succ k ih =>
    rw [krUp_succ, mnUp_succ]
    have := wgt_le (ln ls k)
    by_cases h : 0 < ln ls k
    · rw [if_pos h]; omega
    · rw [if_neg h]; unfold wgt; rw [if_neg h]; omega
/-- What complete lengths are. -/
theorem complete {ls : List Int} (h : checkS ls = 0) : (∀ t, 0 ≤ ln ls t ∧ ln ls t ≤ 15) ∧ (many ls = 1 ∨ kraft ls = 32768) ∧ kraft ls ≤ 32768 := by
  unfold checkS at h
  by_cases hb : ls.any badLen = true
  · rw [if_pos hb] at h; simp at h
  · rw [if_neg hb] at h
    by_cases hc : many ls = 1 ∨ kraft ls = 32768
    · refine ⟨fun t => ?_, hc, ?_⟩
      · by_cases ht : t < ls.length
        · simp only [List.any_eq_true, not_exists, not_and] at hb
          have := hb (ln ls t) (ln_mem ht)
          simp [badLen] at this; omega
        · unfold ln; rw [List.getElem?_eq_none (by omega)]; simp
      · rcases hc with hc | hc
        · have h1 := krUp_many ls ls.length
          have h2 : mnUp ls ls.length = 1 := hc
          have h3 : kraft ls = krUp ls ls.length := rfl
          omega
        · omega
    · rw [if_neg hc] at h; simp at h
theorem upTo_small {ls : List Int} (h : checkS ls = 0) (n i : Nat) (hn : n ≤ 15) : upTo ls n i * 2 ^ (15 - n) ≤ 32768 := Int.le_trans (upTo_kraft ls n i hn) (complete h).2.2
theorem upTo_lt {ls : List Int} (h : checkS ls = 0) (n i : Nat) (hn : n ≤ 15) : upTo ls n i ≤ 32768 := by
  have h1 := upTo_small h n i hn
  have h2 := upTo_nonneg ls n i
  have h3 : (1 : Int) ≤ 2 ^ (15 - n) := by exact_mod_cast Nat.one_le_two_pow
  have h4 := Int.mul_le_mul_of_nonneg_left h3 h2
  omega

/-! ### The only symbol, step by step -/
def nzUp (ls : List Int) (k : Nat) : List Nat := (List.range k).filter (fun t => ln ls t != 0)
theorem nzUp_hit (ls : List Int) (k : Nat) (h : ln ls k ≠ 0) : nzUp ls (k + 1) = nzUp ls k ++ [k] := by simp [nzUp, List.range_succ, List.filter_append, h]
theorem nzUp_miss (ls : List Int) (k : Nat) (h : ln ls k = 0) : nzUp ls (k + 1) = nzUp ls k := by simp [nzUp, List.range_succ, List.filter_append, h]
theorem nzUp_le (ls : List Int) (k : Nat) : (nzUp ls k).length ≤ k := by have := List.length_filter_le (fun t => ln ls t != 0) (List.range k); simpa [nzUp] using this
theorem oneOf_one (l : List Nat) (h : l.length = 1) : oneOf l = (((hd0 l : Nat) : Int), true) := by
  match l, h with
  | [i], _ => rfl
theorem oneOf_not (l : List Nat) (h : l.length ≠ 1) : oneOf l = (0, false) := by
  match l, h with
  | [], _ => rfl
  | [i], h => simp at h
  | i :: j :: t, _ => rfl
theorem oneS_up (ls : List Int) : oneS ls = oneOf (nzUp ls ls.length) := rfl

/-! ### A table of codes, step by step -/
def rowAt (ls : List Int) (n : Int) (i : Nat) : List Int := (List.range ls.length).map fun s => if 0 < ln ls s ∧ (ln ls s < n ∨ ln ls s = n ∧ s < i) then codeS ls s else 0
theorem rowAt_length (ls : List Int) (n : Int) (i : Nat) : (rowAt ls n i).length = ls.length := by simp [rowAt]
theorem rowAt_get (ls : List Int) (n : Int) (i s : Nat) (h : s < ls.length) : (rowAt ls n i)[s]? = some (if 0 < ln ls s ∧ (ln ls s < n ∨ ln ls s = n ∧ s < i) then codeS ls s else 0) := by
  simp [rowAt, List.getElem?_map, List.getElem?_range h]
theorem rowAt_hit (ls : List Int) (n : Int) (i : Nat) (hi : i < ls.length) (hn : 0 < n) (h : ln ls i = n) : (rowAt ls n i).set i (codeS ls i) = rowAt ls n (i + 1) := by
  apply List.ext_getElem?
  intro s
  by_cases hs : s < ls.length
  · rw [rowAt_get _ _ _ _ hs, List.getElem?_set, rowAt_get _ _ _ _ hs, rowAt_length]
    by_cases e : i = s
    · subst e
      rw [if_pos rfl, if_pos hi, if_pos (by omega)]
    · rw [if_neg e]
      have : (0 < ln ls s ∧ (ln ls s < n ∨ ln ls s = n ∧ s < i)) ↔ (0 < ln ls s ∧ (ln ls s < n ∨ ln ls s = n ∧ s < i + 1)) := by constructor <;> intro a <;> omega
      simp only [this]
  · rw [List.getElem?_eq_none (by simp [rowAt]; omega), List.getElem?_eq_none (by simp [rowAt]; omega)]
theorem rowAt_eq (ls : List Int) (n m : Int) (i j : Nat) (h : ∀ s, s < ls.length → ((0 < ln ls s ∧ (ln ls s < n ∨ ln ls s = n ∧ s < i)) ↔ (0 < ln ls s ∧ (ln ls s < m ∨ ln ls s = m ∧ s < j)))) : rowAt ls n i = rowAt ls m j := by
  apply List.map_congr_left
  intro s hs
  have := h s (List.mem_range.1 hs)
  simp only [this]
theorem rowAt_miss (ls : List Int) (n : Int) (i : Nat) (h : ln ls i ≠ n) : rowAt ls n (i + 1) = rowAt ls n i :=
  rowAt_eq _ _ _ _ _ fun s _ => by
    by_cases e : s = i
    · subst e; constructor <;> intro a <;> omega
    · constructor <;> intro a <;> omega
theorem rowAt_next (ls : List Int) (n : Int) : rowAt ls n ls.length = rowAt ls (n + 1) 0 := rowAt_eq _ _ _ _ _ fun s hs => by constructor <;> intro a <;> omega
theorem rowAt_start (ls : List Int) : rowAt ls 1 0 = List.replicate ls.length 0 := by
  apply List.ext_getElem
  · simp [rowAt]
  · intro i h1 h2
    simp [rowAt]
    intro a b
    omega
theorem rowAt_done {ls : List Int} (h : checkS ls = 0) : rowAt ls 16 0 = codesS ls := by
  apply List.map_congr_left
  intro s _
  have := (complete h).1 s
  by_cases hp : 0 < ln ls s
  · rw [if_pos hp, if_pos (by omega)]
  · rw [if_neg hp, if_neg (by omega)]
end Go.Proofs.YtfeloicmkcfinaaDoor
