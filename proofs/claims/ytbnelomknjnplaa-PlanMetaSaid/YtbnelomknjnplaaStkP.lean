/- Plain: the sixteen sets, by how many they have, then number by number. -/
import Derived.Test.YtbnelomknjnplaaSortP
namespace Go.Proofs.Ytbnelomknjnplaa.Stk
open Go.Proofs.Ytbnelomknjnplaa
open Srt

def setL (s : Nat) : List Int := ((List.range 4).filter fun k => decide (s / 2 ^ k % 2 = 1)).map fun (k : Nat) => (k : Int)
def order : List Nat := [0, 1, 2, 4, 8, 3, 5, 9, 6, 10, 12, 7, 11, 13, 14, 15]
def rank (s : Nat) : Int := (order.idxOf s : Nat)
def lexC : List Int → List Int → Int
  | [], [] => 0
  | [], _ :: _ => -1
  | _ :: _, [] => 1
  | x :: xs, y :: ys => if x < y then -1 else if y < x then 1 else lexC xs ys
/-- How two sets stand to each other. -/
def cv (s t : Nat) : Int := if (setL s).length = (setL t).length then lexC (setL s) (setL t) else (setL s).length - (setL t).length
theorem cv_all : ∀ s t : Fin 16, (decide (cv s.val t.val < 0) = decide (rank s.val < rank t.val)) := by decide +kernel
theorem cv_neg {s t : Nat} (hs : s < 16) (ht : t < 16) : cv s t < 0 ↔ rank s < rank t := by
  have := cv_all ⟨s, hs⟩ ⟨t, ht⟩
  simpa using this
theorem setL_len : ∀ s : Fin 16, (setL s.val).length ≤ 4 := by decide +kernel
theorem rank_range : ∀ s ∈ List.range 16, 0 ≤ rank s ∧ rank s < 16 := by decide +kernel
theorem rank_order : ∀ s ∈ order, 0 ≤ rank s ∧ rank s < 16 := by decide +kernel
theorem filt_all : ∀ k : Fin 16, (List.range 16).filter (fun s => rank s == (k.val : Int)) = order.filter (fun s => rank s == (k.val : Int)) := by decide +kernel
theorem filt (k : Int) : (List.range 16).filter (fun s => rank s == k) = order.filter (fun s => rank s == k) := by
  by_cases h : 0 ≤ k ∧ k < 16
  · have := filt_all ⟨k.toNat, by omega⟩
    rw [show ((⟨k.toNat, by omega⟩ : Fin 16).val : Int) = k by simp; omega] at this
    exact this
  · rw [List.filter_eq_nil_iff.2 (fun s hs => by have := rank_range s hs; simp; omega), List.filter_eq_nil_iff.2 (fun s hs => by have := rank_order s hs; simp; omega)]
theorem up_order : order.Pairwise (fun a b => rank a ≤ rank b) := by decide +kernel
theorem sorted_order {α : Type} (key : α → Int) (f : Nat → α) (hk : ∀ s, s < 16 → key (f s) = rank s) {s' : List α} (hs : Sorted key s') (hf : FEq key ((List.range 16).map f) s') : s' = order.map f := by
  have ho : ∀ s ∈ order, s < 16 := by decide
  refine sorted_unique hs ?_ (hf.symm.trans ?_)
  · refine List.pairwise_map.2 (up_order.imp_of_mem fun ha hb h => ?_)
    rw [hk _ (ho _ ha), hk _ (ho _ hb)]; exact h
  · intro k
    rw [List.filter_map, List.filter_map]
    refine congrArg (List.map f) ?_
    have e1 : (List.range 16).filter ((fun x => key x == k) ∘ f) = (List.range 16).filter (fun s => rank s == k) := List.filter_congr fun s h => by simp only [Function.comp, hk s (List.mem_range.1 h)]
    have e2 : order.filter ((fun x => key x == k) ∘ f) = order.filter (fun s => rank s == k) := List.filter_congr fun s h => by simp only [Function.comp, hk s (ho s h)]
    exact e1.trans ((filt k).trans e2.symm)
/-- What the law asks of the sets at two places. -/
def at_ (i : Nat) : List Int := setL (order.getD i 0)
theorem at_up : ∀ i : Fin 16, ∀ n : Fin 4, n.val < (at_ i.val).length → 0 ≤ (at_ i.val).getD n.val 0 ∧ (at_ i.val).getD n.val 0 ≤ 3 ∧ (0 < n.val → (at_ i.val).getD (n.val - 1) 0 < (at_ i.val).getD n.val 0) := by decide +kernel
theorem at_len : ∀ i : Fin 16, (at_ i.val).length ≤ 4 := by decide +kernel
theorem at_less : ∀ i k : Fin 16, i.val < k.val → (at_ i.val).length ≠ (at_ k.val).length → (at_ i.val).length < (at_ k.val).length := by decide +kernel
theorem at_first : ∀ i k : Fin 16, i.val < k.val → (at_ i.val).length = (at_ k.val).length → ∃ n : Fin 4, n.val < (at_ i.val).length ∧ (at_ i.val).getD n.val 0 < (at_ k.val).getD n.val 0 ∧ ∀ j : Fin 4, j.val < n.val → (at_ i.val).getD j.val 0 = (at_ k.val).getD j.val 0 := by decide +kernel
end Go.Proofs.Ytbnelomknjnplaa.Stk
