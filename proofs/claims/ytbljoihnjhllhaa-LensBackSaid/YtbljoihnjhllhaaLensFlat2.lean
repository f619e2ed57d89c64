/- Plain theory of codes: completeness, the only symbol, canonical codes. No program in sight. -/
import Derived.Test.YtbljoihnjhllhaaLensFlat1
namespace Go.Proofs.Ytbljoihnjhllhaa
open Srt

/-! ### Sums -/
def sumTo (n : Nat) (f : Nat → Int) : Int := ((List.range n).map f).sum
theorem sumTo_zero (f : Nat → Int) : sumTo 0 f = 0 := rfl
theorem sumTo_succ (n : Nat) (f : Nat → Int) : sumTo (n + 1) f = sumTo n f + f n := by
  simp [sumTo, List.range_succ]
theorem sumTo_congr {n : Nat} {f g : Nat → Int} (h : ∀ t, t < n → f t = g t) : sumTo n f = sumTo n g := by
  induction n with
  | zero => rfl
  | succ n ih => rw [sumTo_succ, sumTo_succ, ih (fun t ht => h t (by omega)), h n (by omega)]
theorem sumTo_le {n : Nat} {f g : Nat → Int} (h : ∀ t, t < n → f t ≤ g t) : sumTo n f ≤ sumTo n g := by
  induction n with
  | zero => simp [sumTo]
  | succ n ih => rw [sumTo_succ, sumTo_succ]; have := ih (fun t ht => h t (by omega)); have := h n (by omega); omega
theorem sumTo_nonneg {n : Nat} {f : Nat → Int} (h : ∀ t, t < n → 0 ≤ f t) : 0 ≤ sumTo n f := by
  induction n with
  | zero => simp [sumTo]
  | succ n ih => rw [sumTo_succ]; have := ih (fun t ht => h t (by omega)); have := h n (by omega); omega
theorem sumTo_mul (n : Nat) (f : Nat → Int) (c : Int) : sumTo n f * c = sumTo n (fun t => f t * c) := by
  induction n with
  | zero => simp [sumTo]
  | succ n ih => rw [sumTo_succ, sumTo_succ, Int.add_mul, ih]
theorem sumTo_add (n : Nat) (f g : Nat → Int) : sumTo n f + sumTo n g = sumTo n (fun t => f t + g t) := by
  induction n with
  | zero => simp [sumTo]
  | succ n ih => rw [sumTo_succ, sumTo_succ, sumTo_succ, ← ih]; omega
/-- One term more. -/
theorem sumTo_one {n : Nat} {f g : Nat → Int} (i : Nat) (hi : i < n) (h : ∀ t, t < n → t ≠ i → f t = g t) : sumTo n g = sumTo n f + (g i - f i) := by
  induction n with
  | zero => omega
  | succ n ih =>
    rw [sumTo_succ, sumTo_succ]
    by_cases e : i = n
    · subst e
      rw [sumTo_congr (fun t ht => (h t (by omega) (by omega)).symm)]; omega
    · rw [ih (by omega) (fun t ht hne => h t (by omega) hne), h n (by omega) (by omega)]; omega
theorem sum_filter (n : Nat) (p : Nat → Bool) (f : Nat → Int) : (((List.range n).filter p).map f).sum = sumTo n (fun t => if p t then f t else 0) := by
  induction n with
  | zero => simp [sumTo]
  | succ n ih =>
    rw [sumTo_succ, List.range_succ, List.filter_append, List.map_append, List.sum_append, ih]
    by_cases h : p n <;> simp [h]

/-! ### Lengths -/
/-- The length of symbol t. -/
def ln (ls : List Int) (t : Nat) : Int := ls[t]?.getD 0
def wgt (n : Int) : Int := if 0 < n then 2 ^ (15 - n.toNat) else 0
theorem wgt_nonneg (n : Int) : 0 ≤ wgt n := by unfold wgt; split; exact Int.le_of_lt (Int.pow_pos (by decide)); omega
theorem wgt_le (n : Int) : wgt n ≤ 16384 := by
  unfold wgt
  split
  · have : (2 : Int) ^ (15 - n.toNat) ≤ 2 ^ 14 := by exact_mod_cast Nat.pow_le_pow_right (by decide) (by omega)
    omega
  · omega
def kraft (ls : List Int) : Int := sumTo ls.length (fun t => wgt (ln ls t))
def krUp (ls : List Int) (k : Nat) : Int := sumTo k (fun t => wgt (ln ls t))
def mnUp (ls : List Int) (k : Nat) : Nat := (List.range k).countP (fun t => decide (0 < ln ls t))
def many (ls : List Int) : Nat := mnUp ls ls.length
theorem mnUp_succ (ls : List Int) (k : Nat) : mnUp ls (k + 1) = mnUp ls k + if 0 < ln ls k then 1 else 0 := by
  unfold mnUp
  rw [List.range_succ, List.countP_append]
  by_cases h : 0 < ln ls k <;> simp [h]
theorem mnUp_le (ls : List Int) (k : Nat) : mnUp ls k ≤ k := by
  induction k with
  | zero => simp [mnUp]
  | succ k ih => rw [mnUp_succ]; split <;> omega
theorem krUp_succ (ls : List Int) (k : Nat) : krUp ls (k + 1) = krUp ls k + wgt (ln ls k) := sumTo_succ _ _
theorem krUp_bounds (ls : List Int) (k : Nat) : 0 ≤ krUp ls k ∧ krUp ls k ≤ 16384 * k := by
  induction k with
  | zero => simp [krUp, sumTo]
  | succ k ih => rw [krUp_succ]; have := wgt_nonneg (ln ls k); have := wgt_le (ln ls k); omega
/-- Is a length none that may be? -/
def badLen (n : Int) : Bool := decide (n < 0) || decide (15 < n)
/-- Are lengths complete? An error's number. -/
def checkS (ls : List Int) : Int := if ls.any badLen then 8 else if many ls = 1 ∨ kraft ls = 32768 then 0 else 3
theorem ln_get {ls : List Int} {t : Nat} (h : t < ls.length) : ln ls t = ls[t] := by simp [ln, h]
theorem ln_mem {ls : List Int} {t : Nat} (h : t < ls.length) : ln ls t ∈ ls := by rw [ln_get h]; exact List.getElem_mem _
theorem any_up (ls : List Int) (k : Nat) (hk : k < ls.length) : (ls.take (k + 1)).any badLen = ((ls.take k).any badLen || badLen (ln ls k)) := by
  rw [List.take_add_one, List.getElem?_eq_getElem hk, List.any_append, ln_get hk]; simp

/-! ### The only symbol -/
def nonzero (ls : List Int) : List Nat := (List.range ls.length).filter (fun t => ln ls t != 0)
def hd0 : List Nat → Nat | [] => 0 | x :: _ => x
def oneOf (l : List Nat) : Int × Bool := match l with | [i] => ((i : Int), true) | _ => (0, false)
def oneS (ls : List Int) : Int × Bool := oneOf (nonzero ls)

/-! ### Canonical codes -/
/-- t comes ahead of s. -/
def ahead (ls : List Int) (t s : Nat) : Bool := decide (0 < ln ls t) && (decide (ln ls t < ln ls s) || decide (ln ls t = ln ls s) && decide (t < s))
def codeS (ls : List Int) (s : Nat) : Int := sumTo ls.length (fun t => if ahead ls t s then 2 ^ (ln ls s - ln ls t).toNat else 0)
def codesS (ls : List Int) : List Int := (List.range ls.length).map fun s => if 0 < ln ls s then codeS ls s else 0
theorem codesS_length (ls : List Int) : (codesS ls).length = ls.length := by simp [codesS]
theorem codesS_get (ls : List Int) (s : Nat) (h : s < ls.length) : (codesS ls)[s]? = some (if 0 < ln ls s then codeS ls s else 0) := by
  simp [codesS, List.getElem?_map, List.getElem?_range h]

/-- What codes of n bits come to, when symbols below i of that length, and all shorter ones, have theirs. -/
def upTo (ls : List Int) (n : Int) (i : Nat) : Int := sumTo ls.length (fun t => if 0 < ln ls t ∧ (ln ls t < n ∨ ln ls t = n ∧ t < i) then 2 ^ (n - ln ls t).toNat else 0)
theorem upTo_nonneg (ls : List Int) (n : Int) (i : Nat) : 0 ≤ upTo ls n i := sumTo_nonneg (fun t _ => by split; exact Int.le_of_lt (Int.pow_pos (by decide)); omega)
theorem upTo_code (ls : List Int) (s : Nat) : upTo ls (ln ls s) s = codeS ls s := by
  unfold upTo codeS
  refine sumTo_congr fun t _ => ?_
  by_cases h : 0 < ln ls t ∧ (ln ls t < ln ls s ∨ ln ls t = ln ls s ∧ t < s)
  · rw [if_pos h, if_pos (by simp [ahead]; exact h)]
  · rw [if_neg h, if_neg (fun hc => h (by simp [ahead] at hc; omega))]
theorem upTo_hit (ls : List Int) (n : Int) (i : Nat) (hi : i < ls.length) (hn : 0 < n) (h : ln ls i = n) : upTo ls n (i + 1) = upTo ls n i + 1 := by
  unfold upTo
  rw [sumTo_one (f := fun t => if 0 < ln ls t ∧ (ln ls t < n ∨ ln ls t = n ∧ t < i) then 2 ^ (n - ln ls t).toNat else 0) i hi]
  · simp only [h]
    have e1 : 0 < n ∧ (n < n ∨ True ∧ i < i + 1) := by simp; exact hn
    simp only [e1, Int.sub_self]
    simp
  · intro t ht hne
    have : (0 < ln ls t ∧ (ln ls t < n ∨ ln ls t = n ∧ t < i)) ↔ (0 < ln ls t ∧ (ln ls t < n ∨ ln ls t = n ∧ t < i + 1)) := by constructor <;> intro a <;> omega
    simp only [this]
theorem upTo_miss (ls : List Int) (n : Int) (i : Nat) (h : ln ls i ≠ n) : upTo ls n (i + 1) = upTo ls n i := by
  unfold upTo
  refine sumTo_congr fun t _ => ?_
  have : (0 < ln ls t ∧ (ln ls t < n ∨ ln ls t = n ∧ t < i + 1)) ↔ (0 < ln ls t ∧ (ln ls t < n ∨ ln ls t = n ∧ t < i)) := by
    by_cases e : t = i
    · subst e; constructor <;> intro a <;> omega
    · constructor <;> intro a <;> omega
  simp only [this]
theorem upTo_next (ls : List Int) (n : Int) : upTo ls (n + 1) 0 = upTo ls n ls.length * 2 := by
  unfold upTo
  rw [sumTo_mul]
  refine sumTo_congr fun t ht => ?_
  by_cases h : 0 < ln ls t ∧ (ln ls t < n ∨ ln ls t = n ∧ t < ls.length)
  · rw [if_pos h, if_pos (by omega), show (n + 1 - ln ls t).toNat = (n - ln ls t).toNat + 1 from by omega, Int.pow_succ]
  · rw [if_neg h, if_neg (by omega)]; simp
theorem upTo_zero (ls : List Int) : upTo ls 0 ls.length = 0 := by
  unfold upTo
  have : sumTo ls.length (fun t => if 0 < ln ls t ∧ (ln ls t < 0 ∨ ln ls t = 0 ∧ t < ls.length) then 2 ^ (0 - ln ls t).toNat else 0) = sumTo ls.length (fun _ => 0) := sumTo_congr fun t _ => by rw [if_neg (by omega)]
  rw [this]
  have : ∀ n, sumTo n (fun _ => 0) = 0 := by intro n; induction n with | zero => rfl | succ n ih => rw [sumTo_succ, ih]; rfl
  exact this _
theorem upTo_kraft (ls : List Int) (n : Nat) (i : Nat) (hn : n ≤ 15) : upTo ls n i * 2 ^ (15 - n) ≤ kraft ls := by
  unfold upTo kraft
  rw [sumTo_mul]
  refine sumTo_le fun t _ => ?_
  have := wgt_nonneg (ln ls t)
  by_cases h : 0 < ln ls t ∧ (ln ls t < n ∨ ln ls t = n ∧ t < i)
  · rw [if_pos h, ← Int.pow_add]
    unfold wgt
    rw [if_pos h.1, show ((n : Int) - ln ls t).toNat + (15 - n) = 15 - (ln ls t).toNat from by omega]
    exact Int.le_refl _
  · rw [if_neg h]; simpa using this

theorem krUp_many (ls : List Int) (k : Nat) : krUp ls k ≤ 16384 * mnUp ls k := by
  induction k with
  | zero => simp [krUp, mnUp, sumTo]
  | succ k ih =>
    rw [krUp_succ, mnUp_succ]
    have := wgt_le (ln ls k)
    by_cases h : 0 < ln ls k
    · rw [if_pos h]; omega
    · rw [if_neg h]; unfold wgt; rw [if_neg h]; omega
/-- What complete lengths are. -/
theorem complete {ls : List Int} (h : checkS ls = 0) : (∀ t, 0 ≤ ln ls t ∧ ln ls t ≤ 15) ∧ (many ls = 1 ∨ kraft ls = 32768) ∧ kraft ls ≤ 32768 := by
  unfold checkS at h
  by_cases hb : ls.any badLen = true
  · rw [if_pos hb] at h; simp at h
  · rw [if_neg hb] at h
    by_cases hc : many ls = 1 ∨ kraft ls = 32768
    · refine ⟨fun t => ?_, hc, ?_⟩
      · by_cases ht : t < ls.length
        · simp only [List.any_eq_true, not_exists, not_and] at hb
          have := hb (ln ls t) (ln_mem ht)
          simp [badLen] at this; omega
        · unfold ln; rw [List.getElem?_eq_none (by omega)]; simp
      · rcases hc with hc | hc
        · have h1 := krUp_many ls ls.length
          have h2 : mnUp ls ls.length = 1 := hc
          have h3 : kraft ls = krUp ls ls.length := rfl
          omega
        · omega
    · rw [if_neg hc] at h; simp at h
theorem upTo_small {ls : List Int} (h : checkS ls = 0) (n i : Nat) (hn : n ≤ 15) : upTo ls n i * 2 ^ (15 - n) ≤ 32768 := Int.le_trans (upTo_kraft ls n i hn) (complete h).2.2
theorem upTo_lt {ls : List Int} (h : checkS ls = 0) (n i : Nat) (hn : n ≤ 15) : upTo ls n i ≤ 32768 := by
  have h1 := upTo_small h n i hn
  have h2 := upTo_nonneg ls n i
  have h3 : (1 : Int) ≤ 2 ^ (15 - n) := by exact_mod_cast Nat.one_le_two_pow
  have h4 := Int.mul_le_mul_of_nonneg_left h3 h2
  omega

/-! ### The only symbol, step by step -/
def nzUp (ls : List Int) (k : Nat) : List Nat := (List.range k).filter (fun t => ln ls t != 0)
theorem nzUp_hit (ls : List Int) (k : Nat) (h : ln ls k ≠ 0) : nzUp ls (k + 1) = nzUp ls k ++ [k] := by simp [nzUp, List.range_succ, List.filter_append, h]
theorem nzUp_miss (ls : List Int) (k : Nat) (h : ln ls k = 0) : nzUp ls (k + 1) = nzUp ls k := by simp [nzUp, List.range_succ, List.filter_append, h]
theorem nzUp_le (ls : List Int) (k : Nat) : (nzUp ls k).length ≤ k := by have := List.length_filter_le (fun t => ln ls t != 0) (List.range k); simpa [nzUp] using this
theorem oneOf_one (l : List Nat) (h : l.length = 1) : oneOf l = (((hd0 l : Nat) : Int), true) := by
  match l, h with
  | [i], _ => rfl
theorem oneOf_not (l : List Nat) (h : l.length ≠ 1) : oneOf l = (0, false) := by
  match l, h with
  | [], _ => rfl
  | [i], h => simp at h
  | i :: j :: t, _ => rfl
theorem oneS_up (ls : List Int) : oneS ls = oneOf (nzUp ls ls.length) := rfl

/-! ### A table of codes, step by step -/
def rowAt (ls : List Int) (n : Int) (i : Nat) : List Int := (List.range ls.length).map fun s => if 0 < ln ls s ∧ (ln ls s < n ∨ ln ls s = n ∧ s < i) then codeS ls s else 0
theorem rowAt_length (ls : List Int) (n : Int) (i : Nat) : (rowAt ls n i).length = ls.length := by simp [rowAt]
theorem rowAt_get (ls : List Int) (n : Int) (i s : Nat) (h : s < ls.length) : (rowAt ls n i)[s]? = some (if 0 < ln ls s ∧ (ln ls s < n ∨ ln ls s = n ∧ s < i) then codeS ls s else 0) := by
  simp [rowAt, List.getElem?_map, List.getElem?_range h]
theorem rowAt_hit (ls : List Int) (n : Int) (i : Nat) (hi : i < ls.length) (hn : 0 < n) (h : ln ls i = n) : (rowAt ls n i).set i (codeS ls i) = rowAt ls n (i + 1) := by
  apply List.ext_getElem?
  intro s
  by_cases hs : s < ls.length
  · rw [rowAt_get _ _ _ _ hs, List.getElem?_set, rowAt_get _ _ _ _ hs, rowAt_length]
    by_cases e : i = s
    · subst e
      rw [if_pos rfl, if_pos hi, if_pos (by omega)]
    · rw [if_neg e]
      have : (0 < ln ls s ∧ (ln ls s < n ∨ ln ls s = n ∧ s < i)) ↔ (0 < ln ls s ∧ (ln ls s < n ∨ ln ls s = n ∧ s < i + 1)) := by constructor <;> intro a <;> omega
      simp only [this]
  · rw [List.getElem?_eq_none (by simp [rowAt]; omega), List.getElem?_eq_none (by simp [rowAt]; omega)]
theorem rowAt_eq (ls : List Int) (n m : Int) (i j : Nat) (h : ∀ s, s < ls.length → ((0 < ln ls s ∧ (ln ls s < n ∨ ln ls s = n ∧ s < i)) ↔ (0 < ln ls s ∧ (ln ls s < m ∨ ln ls s = m ∧ s < j)))) : rowAt ls n i = rowAt ls m j := by
  apply List.map_congr_left
  intro s hs
  have := h s (List.mem_range.1 hs)
  simp only [this]
theorem rowAt_miss (ls : List Int) (n : Int) (i : Nat) (h : ln ls i ≠ n) : rowAt ls n (i + 1) = rowAt ls n i :=
  rowAt_eq _ _ _ _ _ fun s _ => by
    by_cases e : s = i
    · subst e; constructor <;> intro a <;> omega
    · constructor <;> intro a <;> omega
theorem rowAt_next (ls : List Int) (n : Int) : rowAt ls n ls.length = rowAt ls (n + 1) 0 := rowAt_eq _ _ _ _ _ fun s hs => by constructor <;> intro a <;> omega
theorem rowAt_start (ls : List Int) : rowAt ls 1 0 = List.replicate ls.length 0 := by
  apply List.ext_getElem
  · simp [rowAt]
  · intro i h1 h2
    simp [rowAt]
    intro a b
    omega
theorem rowAt_done {ls : List Int} (h : checkS ls = 0) : rowAt ls 16 0 = codesS ls := by
  apply List.map_congr_left
  intro s _
  have := (complete h).1 s
  by_cases hp : 0 < ln ls s
  · rw [if_pos hp, if_pos (by omega)]
  · rw [if_neg hp, if_neg (by omega)]
end Go.Proofs.Ytbljoihnjhllhaa

/- Plain theory of codes, second part: symbols in order, and what their codes come to. No program in sight. -/
namespace Go.Proofs.Ytbljoihnjhllhaa
open Srt

/-! ### The only symbol, by two looks -/
theorem nzUp_shift (ls : List Int) (a m : Nat) : nzUp ls (a + m) = nzUp ls a ++ (nzUp (ls.drop a) m).map (· + a) := by
  induction m with
  | zero => simp [nzUp]
  | succ m ih =>
    have e : ln (ls.drop a) m = ln ls (a + m) := by unfold ln; rw [List.getElem?_drop]
    rw [← Nat.add_assoc]
    by_cases h : ln ls (a + m) = 0
    · rw [nzUp_miss ls (a + m) h, nzUp_miss (ls.drop a) m (by rw [e]; exact h), ih]
    · rw [nzUp_hit ls (a + m) h, nzUp_hit (ls.drop a) m (by rw [e]; exact h), ih]
      simp [Nat.add_comm]
/-- Where the first length that is not 0 stands. -/
def firstNz (ls : List Int) : Int := match nonzero ls with | [] => -1 | i :: _ => (i : Int)
theorem firstNz_none {ls : List Int} (h : nzUp ls ls.length = []) : firstNz ls = -1 := by
  have : nonzero ls = [] := h
  unfold firstNz; rw [this]
theorem firstNz_some {ls : List Int} {k : Nat} (hk : k < ls.length) (h0 : nzUp ls k = []) (h1 : ln ls k ≠ 0) : firstNz ls = k ∧ nonzero ls = k :: (nonzero (ls.drop (k + 1))).map (· + (k + 1)) := by
  have e : nonzero ls = k :: (nonzero (ls.drop (k + 1))).map (· + (k + 1)) := by
    have h2 := nzUp_shift ls (k + 1) (ls.length - (k + 1))
    rw [show k + 1 + (ls.length - (k + 1)) = ls.length from by omega, nzUp_hit ls k h1, h0] at h2
    have h3 : nonzero (ls.drop (k + 1)) = nzUp (ls.drop (k + 1)) (ls.length - (k + 1)) := by unfold nonzero nzUp; rw [List.length_drop]
    rw [h3]
    exact h2
  refine ⟨?_, e⟩
  unfold firstNz; rw [e]
theorem firstNz_neg {ls : List Int} : firstNz ls < 0 ↔ nonzero ls = [] := by
  unfold firstNz
  cases h : nonzero ls with
  | nil => simp
  | cons i t => simp

/-! ### Symbols in order -/
/-- The symbols that have a length. -/
def posUp (ls : List Int) (k : Nat) : List Int := ((List.range k).filter (fun t => decide (0 < ln ls t))).map Int.ofNat
def posList (ls : List Int) : List Int := posUp ls ls.length
theorem posUp_hit (ls : List Int) (k : Nat) (h : 0 < ln ls k) : posUp ls (k + 1) = posUp ls k ++ [(k : Int)] := by simp [posUp, List.range_succ, List.filter_append, h]
theorem posUp_miss (ls : List Int) (k : Nat) (h : ¬ 0 < ln ls k) : posUp ls (k + 1) = posUp ls k := by simp [posUp, List.range_succ, List.filter_append, h]
theorem posUp_le (ls : List Int) (k : Nat) : (posUp ls k).length ≤ k := by
  have := List.length_filter_le (fun t => decide (0 < ln ls t)) (List.range k)
  simpa [posUp] using this
theorem posUp_mem {ls : List Int} {k : Nat} {x : Int} (h : x ∈ posUp ls k) : 0 ≤ x ∧ x < k ∧ 0 < ln ls x.toNat := by
  unfold posUp at h
  rw [List.mem_map] at h
  obtain ⟨t, ht, rfl⟩ := h
  rw [List.mem_filter, List.mem_range] at ht
  simp at ht ⊢
  exact ht
theorem posUp_lt (ls : List Int) (k : Nat) : (posUp ls k).Pairwise (· < ·) := by
  unfold posUp
  rw [List.pairwise_map]
  have h := List.Pairwise.filter (fun t => decide (0 < ln ls t)) (List.pairwise_lt_range (n := k))
  exact h.imp (fun h => by simpa using h)
/-- A symbol's key. -/
def keyL (ls : List Int) (x : Int) : Int := ln ls x.toNat
/-- os are the symbols that have a length, the shorter ones first. -/
def InOrder (ls os : List Int) : Prop := Sorted (keyL ls) os ∧ FEq (keyL ls) (posList ls) os

theorem lex_of {α : Type} {key : α → Int} {R : α → α → Prop} : ∀ {l : List α}, Sorted key l → (∀ k, (l.filter (fun x => key x == k)).Pairwise R) → l.Pairwise (fun x y => key x < key y ∨ key x = key y ∧ R x y) := by
  intro l
  induction l with
  | nil => intro _ _; exact List.Pairwise.nil
  | cons x l ih =>
    intro h hr
    unfold Sorted at h
    rw [List.pairwise_cons] at h
    refine List.pairwise_cons.2 ⟨fun y hy => ?_, ih h.2 (fun k => ?_)⟩
    · have h1 := h.1 y hy
      by_cases e : key x = key y
      · right
        refine ⟨e, ?_⟩
        have h2 := hr (key x)
        rw [List.filter_cons, if_pos (by simp)] at h2
        exact (List.pairwise_cons.1 h2).1 y (by rw [List.mem_filter]; exact ⟨hy, by simp [e]⟩)
      · left; omega
    · have h2 := hr k
      rw [List.filter_cons] at h2
      split at h2
      · exact (List.pairwise_cons.1 h2).2
      · exact h2
theorem FEq.perm {α : Type} [BEq α] [LawfulBEq α] {key : α → Int} {a b : List α} (h : FEq key a b) : a.Perm b := by
  rw [List.perm_iff_count]
  intro x
  have e : ∀ l : List α, l.count x = (l.filter (fun y => key y == key x)).count x := fun l => by
    rw [List.count_filter]; simp
  rw [e a, e b, h (key x)]
theorem InOrder.mem {ls os : List Int} (h : InOrder ls os) {x : Int} (hx : x ∈ os) : 0 ≤ x ∧ x < ls.length ∧ 0 < ln ls x.toNat := posUp_mem ((h.2.mem x).2 hx)
theorem InOrder.lex {ls os : List Int} (h : InOrder ls os) : os.Pairwise (fun x y => keyL ls x < keyL ls y ∨ keyL ls x = keyL ls y ∧ x < y) := by
  refine lex_of h.1 (fun k => ?_)
  rw [← h.2 k]
  exact List.Pairwise.filter _ (posUp_lt ls ls.length)

/-- The code of a symbol out of those that stand ahead of it. -/
def csum (ls pre : List Int) (s : Int) : Int := (pre.map (fun t => (2 : Int) ^ (keyL ls s - keyL ls t).toNat)).sum
theorem csum_next (ls pre : List Int) (p s : Int) (h : ∀ t ∈ pre, keyL ls t ≤ keyL ls p) (hp : keyL ls p ≤ keyL ls s) : csum ls (pre ++ [p]) s = (csum ls pre p + 1) * 2 ^ (keyL ls s - keyL ls p).toNat := by
  have h1 : csum ls pre s = csum ls pre p * 2 ^ (keyL ls s - keyL ls p).toNat := by
    unfold csum
    induction pre with
    | nil => simp
    | cons t pre ih =>
      have ht := h t (by simp)
      rw [List.map_cons, List.sum_cons, List.map_cons, List.sum_cons, Int.add_mul, ih (fun t ht => h t (by simp [ht])), ← Int.pow_add, show (keyL ls s - keyL ls t).toNat = (keyL ls p - keyL ls t).toNat + (keyL ls s - keyL ls p).toNat from by omega]
  have h2 : csum ls (pre ++ [p]) s = csum ls pre s + 2 ^ (keyL ls s - keyL ls p).toNat := by
    unfold csum
    rw [List.map_append, List.sum_append]; simp
  rw [h2, h1, Int.add_mul, Int.one_mul]
theorem perm_sum {a b : List Int} (h : a.Perm b) : a.sum = b.sum := by
  induction h with
  | nil => rfl
  | cons x _ ih => simp [ih]
  | swap x y l => simp only [List.sum_cons]; omega
  | trans _ _ ih1 ih2 => exact ih1.trans ih2
theorem codeS_pre {ls pre post : List Int} {s : Int} (h : InOrder ls (pre ++ s :: post)) : codeS ls s.toNat = csum ls pre s := by
  have hl := h.lex
  rw [List.pairwise_append, List.pairwise_cons] at hl
  obtain ⟨_, ⟨h2, _⟩, h3⟩ := hl
  have hs := h.mem (x := s) (by simp)
  have e1 : (pre ++ s :: post).filter (fun x => ahead ls x.toNat s.toNat) = pre := by
    have a1 : pre.filter (fun x => ahead ls x.toNat s.toNat) = pre := by
      rw [List.filter_eq_self]
      intro x hx
      have hm := h.mem (x := x) (by simp [hx])
      have := h3 x hx s (by simp)
      unfold keyL at this
      simp only [ahead, Bool.and_eq_true, Bool.or_eq_true, decide_eq_true_eq]
      omega
    have a2 : (s :: post).filter (fun x => ahead ls x.toNat s.toNat) = [] := by
      rw [List.filter_eq_nil_iff]
      intro x hx hc
      simp only [ahead, Bool.and_eq_true, Bool.or_eq_true, decide_eq_true_eq] at hc
      rcases List.mem_cons.1 hx with e | e
      · subst e; omega
      · have := h2 x e
        have hm := h.mem (x := x) (by simp [e])
        unfold keyL at this
        omega
    rw [List.filter_append, a1, a2, List.append_nil]
  have e2 : (posList ls).filter (fun x => ahead ls x.toNat s.toNat) = ((List.range ls.length).filter (fun t => ahead ls t s.toNat)).map Int.ofNat := by
    unfold posList posUp
    rw [List.filter_map, List.filter_filter]
    congr 1
    apply List.filter_congr
    intro t _
    simp only [Function.comp, Int.ofNat_eq_natCast, Int.toNat_natCast]
    unfold ahead
    cases decide (0 < ln ls t) <;> simp
  have hp := (FEq.perm h.2).filter (fun x => ahead ls x.toNat s.toNat)
  rw [e1, e2] at hp
  have h4 := perm_sum (hp.map (fun t => (2 : Int) ^ (keyL ls s - keyL ls t).toNat))
  unfold codeS csum
  rw [← h4, List.map_map, ← sum_filter]
  rfl
theorem csum_nil (ls : List Int) (s : Int) : csum ls [] s = 0 := rfl
end Go.Proofs.Ytbljoihnjhllhaa

/- Plain theory of lengths that cost least: coins and packages. No program in sight. -/
namespace Go.Proofs.Ytbljoihnjhllhaa.Sz
open Srt

structure Pk where
  sum : Int
  syms : List Nat

abbrev Up (l : List Pk) : Prop := Sorted Pk.sum l
def tot (l : List Pk) : Int := (l.map Pk.sum).sum
theorem tot_append (a b : List Pk) : tot (a ++ b) = tot a + tot b := by simp [tot]
theorem tot_perm {a b : List Pk} (h : a.Perm b) : tot a = tot b := by
  unfold tot
  induction h with
  | nil => rfl
  | cons x _ ih => simp [ih]
  | swap x y l => simp; omega
  | trans _ _ ih1 ih2 => rw [ih1, ih2]

/-! ### Packages -/
def pairUp : List Pk → List Pk
  | a :: b :: t => ⟨a.sum + b.sum, a.syms ++ b.syms⟩ :: pairUp t
  | _ => []
theorem pairUp_length : ∀ l : List Pk, (pairUp l).length = l.length / 2
  | [] => rfl
  | [_] => by simp [pairUp]
  | a :: b :: t => by simp [pairUp, pairUp_length t]; omega
theorem pairUp_get : ∀ (l : List Pk) (j : Nat) (a b : Pk), l[2 * j]? = some a → l[2 * j + 1]? = some b → (pairUp l)[j]? = some ⟨a.sum + b.sum, a.syms ++ b.syms⟩
  | [], j, a, b, h, _ => by simp at h
  | [x], j, a, b, _, h => by simp at h
  | x :: y :: t, 0, a, b, h, h' => by simp at h h'; subst h h'; rfl
  | x :: y :: t, j + 1, a, b, h, h' => by
    rw [show 2 * (j + 1) = 2 * j + 1 + 1 from by omega] at h h'
    simp at h h'
    simpa [pairUp] using pairUp_get t j a b h h'
theorem pairUp_syms : ∀ (l : List Pk) (b : Nat), 2 * b ≤ l.length → ((pairUp l).take b).flatMap Pk.syms = (l.take (2 * b)).flatMap Pk.syms
  | l, 0, _ => by simp
  | [], b + 1, h => by simp at h
  | [_], b + 1, h => by simp at h; omega
  | x :: y :: t, b + 1, h => by
    have ih := pairUp_syms t b (by simp at h; omega)
    rw [show 2 * (b + 1) = 2 * b + 1 + 1 from by omega]
    simp [pairUp, ih]
theorem pairUp_tot : ∀ (l : List Pk) (b : Nat), 2 * b ≤ l.length → tot ((pairUp l).take b) = tot (l.take (2 * b))
  | l, 0, _ => by simp
  | [], b + 1, h => by simp at h
  | [_], b + 1, h => by simp at h; omega
  | x :: y :: t, b + 1, h => by
    have ih := pairUp_tot t b (by simp at h; omega)
    rw [show 2 * (b + 1) = 2 * b + 1 + 1 from by omega]
    unfold tot at ih ⊢
    simp [pairUp] at ih ⊢
    rw [ih]; omega
theorem pairUp_mem : ∀ (l : List Pk) (p : Pk), p ∈ pairUp l → ∃ a b, a ∈ l ∧ b ∈ l ∧ p.sum = a.sum + b.sum
  | [], p, h => by simp [pairUp] at h
  | [_], p, h => by simp [pairUp] at h
  | x :: y :: t, p, h => by
    simp only [pairUp, List.mem_cons] at h
    rcases h with rfl | h
    · exact ⟨x, y, by simp, by simp, rfl⟩
    · obtain ⟨a, b, h1, h2, h3⟩ := pairUp_mem t p h
      exact ⟨a, b, by simp [h1], by simp [h2], h3⟩
theorem pairUp_up : ∀ l : List Pk, Up l → Up (pairUp l)
  | [], _ => sorted_nil _
  | [_], _ => sorted_nil _
  | x :: y :: t, h => by
    unfold Up Sorted at h
    rw [List.pairwise_cons] at h
    obtain ⟨h1, h2⟩ := h
    rw [List.pairwise_cons] at h2
    refine List.pairwise_cons.2 ⟨fun p hp => ?_, pairUp_up t h2.2⟩
    obtain ⟨a, b, ha, hb, e⟩ := pairUp_mem t p hp
    rw [e]
    have := h1 a (by simp [ha]); have := h2.1 b hb
    show x.sum + y.sum ≤ _
    omega

/-! ### Two lists as one -/
def mrg : List Pk → List Pk → List Pk
  | [], q => q
  | a :: p, [] => a :: p
  | a :: p, b :: q => if a.sum ≤ b.sum then a :: mrg p (b :: q) else b :: mrg (a :: p) q
termination_by p q => p.length + q.length
theorem mrg_nil (q : List Pk) : mrg [] q = q := by rw [mrg]
theorem mrg_nil' (p : List Pk) : mrg p [] = p := by cases p <;> rw [mrg]
theorem mrg_cons (a b : Pk) (p q : List Pk) : mrg (a :: p) (b :: q) = if a.sum ≤ b.sum then a :: mrg p (b :: q) else b :: mrg (a :: p) q := by rw [mrg]
theorem mrg_perm (p q : List Pk) : (mrg p q).Perm (p ++ q) := by
  fun_induction mrg p q with
  | case1 q => simp
  | case2 a p => simp
  | case3 a p b q h ih => exact List.Perm.cons a ih
  | case4 a p b q h ih => exact (List.Perm.cons b ih).trans (List.perm_middle (l₁ := a :: p)).symm
theorem mrg_mem {p q : List Pk} {x : Pk} (h : x ∈ mrg p q) : x ∈ p ∨ x ∈ q := by simpa using (mrg_perm p q).mem_iff.1 h
theorem mrg_length (p q : List Pk) : (mrg p q).length = p.length + q.length := by simpa using (mrg_perm p q).length_eq
theorem mrg_up (p q : List Pk) (hp : Up p) (hq : Up q) : Up (mrg p q) := by
  fun_induction mrg p q with
  | case1 q => exact hq
  | case2 a p => exact hp
  | case3 a p b q h ih =>
    have hp' := List.pairwise_cons.1 hp
    have hq' := List.pairwise_cons.1 hq
    refine List.pairwise_cons.2 ⟨fun x hx => ?_, ih hp'.2 hq⟩
    rcases mrg_mem hx with h1 | h1
    · exact hp'.1 x h1
    · rcases List.mem_cons.1 h1 with rfl | h2
      · exact h
      · have := hq'.1 x h2; omega
  | case4 a p b q h ih =>
    have hp' := List.pairwise_cons.1 hp
    have hq' := List.pairwise_cons.1 hq
    refine List.pairwise_cons.2 ⟨fun x hx => ?_, ih hp hq'.2⟩
    rcases mrg_mem hx with h1 | h1
    · rcases List.mem_cons.1 h1 with rfl | h2
      · omega
      · have := hp'.1 x h2; omega
    · exact hq'.1 x h1
theorem mrg_feq (p q : List Pk) (hp : Up p) (hq : Up q) : FEq Pk.sum (p ++ q) (mrg p q) := by
  fun_induction mrg p q with
  | case1 q => simpa using FEq.refl _ _
  | case2 a p => simpa using FEq.refl _ _
  | case3 a p b q h ih =>
    have := (FEq.refl Pk.sum [a]).app (ih (List.pairwise_cons.1 hp).2 hq)
    simpa using this
  | case4 a p b q h ih =>
    have hp' := List.pairwise_cons.1 hp
    have h1 := (FEq.swap (key := Pk.sum) (a :: p) [b] (by
      intro x hx y hy
      rw [List.mem_singleton.1 hy]
      rcases List.mem_cons.1 hx with rfl | h2
      · omega
      · have := hp'.1 x h2; omega)).app (FEq.refl Pk.sum q)
    have h2 := (FEq.refl Pk.sum [b]).app (ih hp (List.pairwise_cons.1 hq).2)
    refine FEq.trans ?_ h2
    simpa using h1

/-- How many of the first list stand among the first m of both. -/
def cut : List Pk → List Pk → Nat → Nat
  | _, _, 0 => 0
  | [], _, _ + 1 => 0
  | _ :: p, [], m + 1 => cut p [] m + 1
  | a :: p, b :: q, m + 1 => if a.sum ≤ b.sum then cut p (b :: q) m + 1 else cut (a :: p) q m
theorem cut_spec : ∀ (m : Nat) (p q : List Pk), m ≤ p.length + q.length → cut p q m ≤ p.length ∧ cut p q m ≤ m ∧ m - cut p q m ≤ q.length ∧ ((mrg p q).take m).Perm (p.take (cut p q m) ++ q.take (m - cut p q m))
  | 0, p, q, _ => by simp [cut]
  | m + 1, [], q, h => by
    rw [mrg_nil]
    simp [cut] at h ⊢
    exact h
  | m + 1, a :: p, [], h => by
    have ih := cut_spec m p [] (by simp at h ⊢; omega)
    rw [mrg_nil']
    rw [mrg_nil'] at ih
    simp only [cut, List.length_cons, List.take_nil, List.append_nil, List.length_nil, List.take_succ_cons] at ih ⊢
    exact ⟨by omega, by omega, by omega, ih.2.2.2.cons a⟩
  | m + 1, a :: p, b :: q, h => by
    rw [mrg_cons]
    by_cases hab : a.sum ≤ b.sum
    · have ih := cut_spec m p (b :: q) (by simp at h ⊢; omega)
      simp only [cut, if_pos hab, List.length_cons, List.take_succ_cons] at ih ⊢
      refine ⟨by omega, by omega, by omega, ?_⟩
      rw [show m + 1 - (cut p (b :: q) m + 1) = m - cut p (b :: q) m from by omega]
      exact ih.2.2.2.cons a
    · have ih := cut_spec m (a :: p) q (by simp at h ⊢; omega)
      simp only [cut, if_neg hab, List.length_cons, List.take_succ_cons] at ih ⊢
      refine ⟨by omega, by omega, by omega, ?_⟩
      rw [show m + 1 - cut (a :: p) q m = (m - cut (a :: p) q m) + 1 from by omega, List.take_succ_cons]
      exact (ih.2.2.2.cons b).trans List.perm_middle.symm
/-- Of two that weigh the same the first list's stands ahead. -/
theorem cut_tie : ∀ (m : Nat) (p q : List Pk), Up p → m ≤ p.length + q.length → ∀ (i j : Nat) (x y : Pk), p[i]? = some x → q[j]? = some y → j < m - cut p q m → x.sum ≤ y.sum → i < cut p q m
  | 0, p, q, _, _ => by intro i j x y _ _ h; omega
  | m + 1, [], q, _, _ => by intro i j x y h; simp at h
  | m + 1, a :: p, [], _, _ => by intro i j x y _ h; simp at h
  | m + 1, a :: p, b :: q, hp, h => by
    intro i j x y hx hy hj hxy
    by_cases hab : a.sum ≤ b.sum
    · simp only [cut, if_pos hab] at hj ⊢
      cases i with
      | zero => omega
      | succ i =>
        have := cut_tie m p (b :: q) (List.pairwise_cons.1 hp).2 (by simp at h ⊢; omega) i j x y (by simpa using hx) hy (by omega) hxy
        omega
    · simp only [cut, if_neg hab] at hj ⊢
      have hc := (cut_spec m (a :: p) q (by simp at h ⊢; omega)).2.1
      cases j with
      | zero =>
        exfalso
        simp at hy
        subst hy
        have hm : x ∈ a :: p := List.mem_of_getElem? hx
        rcases List.mem_cons.1 hm with rfl | h2
        · omega
        · have := (List.pairwise_cons.1 hp).1 x h2; omega
      | succ j => exact cut_tie m (a :: p) q hp (by simp at h ⊢; omega) i j x y hx (by simpa using hy) (by omega) hxy
theorem cut_pos : ∀ (m : Nat) (p q : List Pk) (i : Nat) (x : Pk), p[i]? = some x → i < cut p q m → ∃ t, t < m ∧ (mrg p q)[t]? = some x
  | 0, p, q, i, x, _, h => by simp [cut] at h
  | m + 1, [], q, i, x, h, _ => by simp at h
  | m + 1, a :: p, [], i, x, hx, h => by
    rw [mrg_nil']
    cases i with
    | zero => exact ⟨0, by omega, hx⟩
    | succ i =>
      simp only [cut] at h
      obtain ⟨t, h1, h2⟩ := cut_pos m p [] i x (by simpa using hx) (by omega)
      rw [mrg_nil'] at h2
      exact ⟨t + 1, by omega, by simpa using h2⟩
  | m + 1, a :: p, b :: q, i, x, hx, h => by
    rw [mrg_cons]
    by_cases hab : a.sum ≤ b.sum
    · simp only [cut, if_pos hab] at h ⊢
      cases i with
      | zero => exact ⟨0, by omega, by simpa using hx⟩
      | succ i =>
        obtain ⟨t, h1, h2⟩ := cut_pos m p (b :: q) i x (by simpa using hx) (by omega)
        exact ⟨t + 1, by omega, by simpa using h2⟩
    · simp only [cut, if_neg hab] at h ⊢
      obtain ⟨t, h1, h2⟩ := cut_pos m (a :: p) q i x hx h
      exact ⟨t + 1, by omega, by simpa using h2⟩

/-! ### The lists of each level, and how many coins of each are taken -/
def pm (C : List Pk) : Nat → List Pk
  | 0 => C
  | k + 1 => mrg C (pairUp (pm C k))
theorem pm_succ (C : List Pk) (k : Nat) : pm C (k + 1) = mrg C (pairUp (pm C k)) := rfl
theorem pm_length (C : List Pk) (k : Nat) : (pm C (k + 1)).length = C.length + (pm C k).length / 2 := by rw [pm_succ, mrg_length, pairUp_length]
theorem pm_up (C : List Pk) (h : Up C) : ∀ k, Up (pm C k)
  | 0 => h
  | k + 1 => mrg_up _ _ h (pairUp_up _ (pm_up C h k))
theorem pm_nonneg (C : List Pk) (h : ∀ x ∈ C, 0 ≤ x.sum) : ∀ k, ∀ x ∈ pm C k, 0 ≤ x.sum
  | 0 => h
  | k + 1 => fun x hx => by
    rcases mrg_mem hx with h1 | h1
    · exact h x h1
    · obtain ⟨a, b, ha, hb, e⟩ := pairUp_mem _ x h1
      have := pm_nonneg C h k a ha; have := pm_nonneg C h k b hb; omega
theorem pm_room (C : List Pk) : ∀ (k d : Nat), C.length ≤ d * 2 ^ k → 2 * C.length ≤ (pm C k).length + d
  | 0, d, h => by simp at h; show _ ≤ C.length + d; omega
  | k + 1, d, h => by
    have ih := pm_room C k (2 * d) (by rw [Nat.pow_succ] at h; rw [Nat.mul_comm 2 d, Nat.mul_assoc, Nat.mul_comm 2]; exact h)
    rw [pm_length]; omega
theorem pm_le (C : List Pk) : ∀ k, (pm C k).length ≤ 2 * C.length
  | 0 => by show C.length ≤ _; omega
  | k + 1 => by have := pm_le C k; rw [pm_length]; omega

def occ (C : List Pk) : Nat → Nat → List Nat
  | 0, m => [m]
  | k + 1, m => cut C (pairUp (pm C k)) m :: occ C k (2 * (m - cut C (pairUp (pm C k)) m))
theorem occ_length (C : List Pk) : ∀ k m, (occ C k m).length = k + 1
  | 0, _ => rfl
  | k + 1, m => by simp [occ, occ_length C k]
/-- What a level's step knows. -/
theorem occ_step (C : List Pk) (k m : Nat) (h : m ≤ (pm C (k + 1)).length) :
    cut C (pairUp (pm C k)) m ≤ C.length ∧ cut C (pairUp (pm C k)) m ≤ m ∧ 2 * (m - cut C (pairUp (pm C k)) m) ≤ (pm C k).length ∧
      ((pm C (k + 1)).take m).Perm (C.take (cut C (pairUp (pm C k)) m) ++ (pairUp (pm C k)).take (m - cut C (pairUp (pm C k)) m)) := by
  obtain ⟨h1, h2, h3, h4⟩ := cut_spec m C (pairUp (pm C k)) (by rw [pm_length] at h; rw [pairUp_length]; exact h)
  rw [pairUp_length] at h3
  exact ⟨h1, h2, by omega, h4⟩
theorem occ_le (C : List Pk) : ∀ k m, m ≤ (pm C k).length → ∀ a ∈ occ C k m, a ≤ C.length
  | 0, m, h => by intro a ha; simp [occ] at ha; subst ha; exact h
  | k + 1, m, h => by
    obtain ⟨h1, h2, h3, _⟩ := occ_step C k m h
    intro a ha
    rcases List.mem_cons.1 ha with rfl | h4
    · exact h1
    · exact occ_le C k _ h3 a h4
theorem occ_syms (C : List Pk) : ∀ k m, m ≤ (pm C k).length → (((pm C k).take m).flatMap Pk.syms).Perm ((occ C k m).flatMap fun a => (C.take a).flatMap Pk.syms)
  | 0, m, _ => by simp [occ, pm]
  | k + 1, m, h => by
    obtain ⟨h1, h2, h3, h4⟩ := occ_step C k m h
    have h5 := List.Perm.flatMap_right Pk.syms h4
    rw [List.flatMap_append, pairUp_syms _ _ h3] at h5
    refine h5.trans ?_
    simp only [occ, List.flatMap_cons]
    exact (occ_syms C k _ h3).append_left _
theorem occ_tot (C : List Pk) : ∀ k m, m ≤ (pm C k).length → tot ((pm C k).take m) = ((occ C k m).map fun a => tot (C.take a)).sum
  | 0, m, _ => by simp [occ, pm]
  | k + 1, m, h => by
    obtain ⟨h1, h2, h3, h4⟩ := occ_step C k m h
    rw [tot_perm h4, tot_append, pairUp_tot _ _ h3, occ_tot C k _ h3]
    simp [occ]
/-- The width of a selection. -/
def wd : List Nat → Nat
  | [] => 0
  | a :: t => a * 2 ^ t.length + wd t
theorem occ_wd (C : List Pk) : ∀ k m, m ≤ (pm C k).length → wd (occ C k m) = m * 2 ^ k
  | 0, m, _ => by simp [occ, wd]
  | k + 1, m, h => by
    obtain ⟨h1, h2, h3, _⟩ := occ_step C k m h
    simp only [occ, wd, occ_length]
    rw [occ_wd C k _ h3, Nat.pow_succ]
    generalize cut C (pairUp (pm C k)) m = a at *
    obtain ⟨b, rfl⟩ : ∃ b, m = a + b := ⟨m - a, by omega⟩
    rw [show a + b - a = b from by omega, Nat.add_mul, Nat.mul_comm 2 b, Nat.mul_assoc b 2, Nat.mul_comm 2]
theorem occ_head_pos (C : List Pk) (k m : Nat) (i : Nat) (x : Pk) (hx : C[i]? = some x) (h : i < (occ C k m).headD 0) : ∃ t, t < m ∧ (pm C k)[t]? = some x := by
  cases k with
  | zero => exact ⟨i, by simpa [occ] using h, hx⟩
  | succ k => exact cut_pos m C _ i x hx (by simpa [occ] using h)
/-- The deeper the level, the fewer coins. -/
theorem occ_desc (C : List Pk) (hu : Up C) (hn : ∀ x ∈ C, 0 ≤ x.sum) : ∀ k m, m ≤ (pm C k).length → (occ C k m).Pairwise (fun a b => b ≤ a)
  | 0, m, _ => by simp [occ]
  | k + 1, m, h => by
    obtain ⟨h1, h2, h3, _⟩ := occ_step C k m h
    have ih := occ_desc C hu hn k _ h3
    have hle := occ_le C k _ h3
    have hhd : (occ C k (2 * (m - cut C (pairUp (pm C k)) m))).headD 0 ≤ cut C (pairUp (pm C k)) m := by
      refine Nat.le_of_not_lt fun hlt => ?_
      have hin : (occ C k (2 * (m - cut C (pairUp (pm C k)) m))).headD 0 ≤ C.length := by
        cases hq : occ C k (2 * (m - cut C (pairUp (pm C k)) m)) with
        | nil => simp
        | cons a t => exact hle a (by rw [hq]; simp)
      obtain ⟨t, ht, hgt⟩ := occ_head_pos C k _ _ _ (List.getElem?_eq_getElem (by omega : cut C (pairUp (pm C k)) m < C.length)) hlt
      have hj : t / 2 < m - cut C (pairUp (pm C k)) m := by omega
      have ha : 2 * (t / 2) < (pm C k).length := by omega
      have hb : 2 * (t / 2) + 1 < (pm C k).length := by omega
      have hp := pairUp_get (pm C k) (t / 2) _ _ (List.getElem?_eq_getElem ha) (List.getElem?_eq_getElem hb)
      have na := pm_nonneg C hn k _ (List.getElem_mem ha)
      have nb := pm_nonneg C hn k _ (List.getElem_mem hb)
      have hs : (C[cut C (pairUp (pm C k)) m]'(by omega)).sum ≤ (pm C k)[2 * (t / 2)].sum + (pm C k)[2 * (t / 2) + 1].sum := by
        rcases Nat.mod_two_eq_zero_or_one t with e | e
        · have : t = 2 * (t / 2) := by omega
          rw [this, List.getElem?_eq_getElem ha] at hgt
          injection hgt with hgt
          rw [← hgt]; omega
        · have : t = 2 * (t / 2) + 1 := by omega
          rw [this, List.getElem?_eq_getElem hb] at hgt
          injection hgt with hgt
          rw [← hgt]; omega
      have := cut_tie m C (pairUp (pm C k)) hu (by rw [pm_length] at h; rw [pairUp_length]; exact h) _ _ _ _ (List.getElem?_eq_getElem (by omega : cut C (pairUp (pm C k)) m < C.length)) hp hj hs
      omega
    simp only [occ]
    refine List.pairwise_cons.2 ⟨fun a ha => ?_, ih⟩
    cases hq : occ C k (2 * (m - cut C (pairUp (pm C k)) m)) with
    | nil => rw [hq] at ha; simp at ha
    | cons c t =>
      rw [hq] at ha ih hhd
      simp at hhd
      rcases List.mem_cons.1 ha with rfl | h4
      · exact hhd
      · exact Nat.le_trans ((List.pairwise_cons.1 ih).1 a h4) hhd
/-- All coins of the first level are taken. -/
theorem occ_all (C : List Pk) (h2 : 2 ≤ C.length) : ∀ k m, m ≤ (pm C k).length → 2 * C.length - 2 ≤ m → C.length ∈ occ C k m
  | 0, m, h, hm => by
    have : m ≤ C.length := h
    simp [occ]; omega
  | k + 1, m, h, hm => by
    obtain ⟨h1, h2', h3, _⟩ := occ_step C k m h
    simp only [occ, List.mem_cons]
    by_cases e : C.length = cut C (pairUp (pm C k)) m
    · exact .inl e
    · exact .inr (occ_all C h2 k _ h3 (by omega))
end Go.Proofs.Ytbljoihnjhllhaa.Sz
