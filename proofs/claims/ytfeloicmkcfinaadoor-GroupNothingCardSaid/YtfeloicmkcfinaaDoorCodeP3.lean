/- Plain theory of codes, third part: the codes of the symbols in order, one after the other. No program in sight. -/
import Derived.Test.YtfeloicmkcfinaaDoorCodeP2
import Derived.Test.YtfeloicmkcfinaaDoorWWords
namespace Go.Proofs.YtfeloicmkcfinaaDoor
open Go.RowKit
open Go.Proofs.YtfeloicmkcfinaaDoorW.PrintWords
open Srt

def outAt (ls done : List Int) : List Int := (List.range ls.length).map fun t => if ((t : Nat) : Int) ∈ done then codeS ls t else 0
theorem outAt_length (ls done : List Int) : (outAt ls done).length = ls.length := by simp [outAt]
theorem outAt_get (ls done : List Int) (s : Nat) (h : s < ls.length) : (outAt ls done)[s]? = some (if ((s : Nat) : Int) ∈ done then codeS ls s else 0) := by
  simp [outAt, List.getElem?_map, List.getElem?_range h]
theorem outAt_nil (ls : List Int) : outAt ls [] = List.replicate ls.length 0 := by
  apply List.ext_getElem
  · simp [outAt]
  · intro i h1 h2; simp [outAt]
theorem outAt_set (ls done : List Int) (s : Nat) (hs : s < ls.length) : (outAt ls done).set s (codeS ls s) = outAt ls (done ++ [(s : Int)]) := by
  apply List.ext_getElem?
  intro t
  by_cases ht : t < ls.length
  · rw [outAt_get _ _ _ ht, List.getElem?_set, outAt_get _ _ _ ht, outAt_length]
    by_cases e : s = t
    · subst e; rw [if_pos rfl, if_pos hs, if_pos (by simp)]
    · rw [if_neg e]
      have : ((t : Nat) : Int) ∈ done ++ [(s : Int)] ↔ ((t : Nat) : Int) ∈ done := by simp; omega
      simp only [this]
  · rw [List.getElem?_eq_none (by simp [outAt]; omega), List.getElem?_eq_none (by simp [outAt]; omega)]
theorem posUp_of {ls : List Int} {k t : Nat} (h : t < k) (hp : 0 < ln ls t) : ((t : Nat) : Int) ∈ posUp ls k := by
  unfold posUp
  rw [List.mem_map]
  exact ⟨t, by rw [List.mem_filter, List.mem_range]; exact ⟨h, by simpa using hp⟩, rfl⟩
theorem outAt_done {ls os : List Int} (h : InOrder ls os) : outAt ls os = codesS ls := by
  apply List.map_congr_left
  intro s hs
  rw [List.mem_range] at hs
  by_cases hp : 0 < ln ls s
  · rw [if_pos hp, if_pos ((h.2.mem _).1 (posUp_of hs hp))]
  · rw [if_neg hp, if_neg (fun hm => hp (by have := (h.mem hm).2.2; rwa [Int.toNat_natCast] at this))]

def sy (os : List Int) (k : Nat) : Nat := (rd os (k : Int)).toNat
def nx (ls os : List Int) : Nat → Int | 0 => 0 | k + 1 => codeS ls (sy os k)
def la (ls os : List Int) : Nat → Int | 0 => 0 | k + 1 => ln ls (sy os k)
theorem rd_get {os : List Int} {k : Nat} (h : k < os.length) : rd os (k : Int) = os[k] := by unfold rd; rw [Int.toNat_natCast, List.getD_eq_getElem?_getD, List.getElem?_eq_getElem h]; rfl
theorem sy_cast {ls os : List Int} (h : InOrder ls os) {k : Nat} (hk : k < os.length) : rd os (k : Int) = (sy os k : Int) ∧ sy os k < ls.length ∧ 0 < ln ls (sy os k) := by
  have hm := h.mem (x := rd os (k : Int)) (by rw [rd_get hk]; exact List.getElem_mem _)
  unfold sy
  exact ⟨by omega, by omega, hm.2.2⟩
theorem cut_at {os : List Int} {k : Nat} (hk : k < os.length) : os = os.take k ++ rd os (k : Int) :: os.drop (k + 1) := by
  rw [rd_get hk, List.getElem_cons_drop]; simp
theorem code_le {ls : List Int} (hc : checkS ls = 0) (s : Nat) : 0 ≤ codeS ls s ∧ codeS ls s ≤ 32768 := by
  have h1 := (complete hc).1 s
  have e : ((ln ls s).toNat : Int) = ln ls s := by omega
  have h2 := upTo_lt hc (ln ls s).toNat s (by omega)
  have h3 := upTo_nonneg ls (ln ls s) s
  rw [e, upTo_code] at h2
  rw [upTo_code] at h3
  exact ⟨h3, h2⟩
theorem nx_le {ls : List Int} (hc : checkS ls = 0) (os : List Int) (k : Nat) : 0 ≤ nx ls os k ∧ nx ls os k ≤ 32768 := by
  cases k with
  | zero => simp [nx]
  | succ k => exact code_le hc _
theorem la_le {ls : List Int} (hc : checkS ls = 0) (os : List Int) (k : Nat) : 0 ≤ la ls os k ∧ la ls os k ≤ 15 := by
  cases k with
  | zero => simp [la]
  | succ k => exact (complete hc).1 _
theorem nx_first {ls os : List Int} (h : InOrder ls os) (hk : 0 < os.length) : nx ls os 1 = 0 := by
  show codeS ls (sy os 0) = 0
  have e := cut_at hk
  have h2 := h
  rw [e] at h2
  have := codeS_pre (pre := []) h2
  exact this
theorem nx_next {ls os : List Int} (h : InOrder ls os) {k : Nat} (hk : k < os.length) (h0 : 0 < k) : la ls os k ≤ la ls os (k + 1) ∧ nx ls os (k + 1) = (nx ls os k + 1) * 2 ^ (la ls os (k + 1) - la ls os k).toNat := by
  obtain ⟨m, rfl⟩ : ∃ m, k = m + 1 := ⟨k - 1, by omega⟩
  show ln ls (sy os m) ≤ ln ls (sy os (m + 1)) ∧ codeS ls (sy os (m + 1)) = (codeS ls (sy os m) + 1) * 2 ^ (ln ls (sy os (m + 1)) - ln ls (sy os m)).toNat
  have e1 := cut_at hk
  have e0 := cut_at (show m < os.length by omega)
  have ht : os.take (m + 1) = os.take m ++ [rd os (m : Int)] := by
    rw [List.take_add_one, List.getElem?_eq_getElem (by omega), rd_get (by omega)]; rfl
  have h1 := h; rw [e1, ht] at h1
  have h2 := h; rw [e0] at h2
  have c1 := codeS_pre h1
  have c2 := codeS_pre h2
  have hs := h1.1
  unfold Sorted at hs
  rw [List.pairwise_append, List.pairwise_append] at hs
  have p1 : keyL ls (rd os (m : Int)) ≤ keyL ls (rd os ((m + 1 : Nat) : Int)) := hs.2.2 _ (by simp) _ (by simp)
  have p2 : ∀ t ∈ os.take m, keyL ls t ≤ keyL ls (rd os (m : Int)) := fun t ht => hs.1.2.2 t ht _ (by simp)
  refine ⟨p1, ?_⟩
  have := csum_next ls (os.take m) (rd os (m : Int)) (rd os ((m + 1 : Nat) : Int)) p2 p1
  rw [← c1, ← c2] at this
  exact this
end Go.Proofs.YtfeloicmkcfinaaDoor
