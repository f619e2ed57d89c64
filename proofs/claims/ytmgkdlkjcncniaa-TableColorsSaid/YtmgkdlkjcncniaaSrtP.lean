/- The library's partitions: plain facts. -/
import Derived.Test.YtmgkdlkjcncniaaSrtB
import Derived.IntWalk
namespace Go.Proofs.Ytmgkdlkjcncniaa
open Go.RowKit
open Go.Proofs.YtmgkdlkjcncniaaW.PrintWords

section
variable (p : Int → Bool)
theorem up_go {d : Array Int} {i j : Nat} (h : i ≤ j) (hp : p d[i]! = true) : Sort.scanUp p d j i = Sort.scanUp p d j (i + 1) := by
  conv => lhs; rw [Sort.scanUp]
  rw [if_pos (by simp [h, hp])]
theorem up_stop {d : Array Int} {i j : Nat} (h : j < i ∨ p d[i]! = false) : Sort.scanUp p d j i = i := by
  rw [Sort.scanUp, if_neg]
  rcases h with h | h
  · simp; intro h'; omega
  · simp [h]
theorem down_go {d : Array Int} {i j : Nat} (h : i ≤ j + 1) (hp : p d[j + 1]! = true) : Sort.scanDown p d i (j + 1) = Sort.scanDown p d i j := by
  conv => lhs; rw [Sort.scanDown]
  rw [if_pos (by simp [h, hp])]
theorem down_stop {d : Array Int} {i j : Nat} (h : j < i ∨ p d[j]! = false) : Sort.scanDown p d i j = j := by
  cases j with
  | zero => rfl
  | succ j =>
    rw [Sort.scanDown, if_neg]
    rcases h with h | h
    · simp; intro h'; omega
    · simp [h]
theorem up_ge (d : Array Int) (j i : Nat) : i ≤ Sort.scanUp p d j i := by
  by_cases h : i ≤ j ∧ p d[i]! = true
  · rw [up_go p h.1 h.2]
    exact Nat.le_trans (Nat.le_succ i) (up_ge d j (i + 1))
  · rw [up_stop p (by by_cases h1 : i ≤ j; right; simpa [h1] using h; left; omega)]
    exact Nat.le_refl _
termination_by j + 1 - i
decreasing_by omega
theorem up_le (d : Array Int) (j i m : Nat) (h1 : i ≤ m) (h2 : j + 1 ≤ m) : Sort.scanUp p d j i ≤ m := by
  by_cases h : i ≤ j ∧ p d[i]! = true
  · rw [up_go p h.1 h.2]
    exact up_le d j (i + 1) m (by omega) h2
  · rw [up_stop p (by by_cases h1 : i ≤ j; right; simpa [h1] using h; left; omega)]
    exact h1
termination_by j + 1 - i
decreasing_by omega
theorem down_le (d : Array Int) (i : Nat) : ∀ j, Sort.scanDown p d i j ≤ j
  | 0 => Nat.le_refl _
  | j + 1 => by
    rw [Sort.scanDown]
    split
    · exact Nat.le_trans (down_le d i j) (Nat.le_succ j)
    · exact Nat.le_refl _
theorem down_ge (d : Array Int) (i a : Nat) (h1 : a + 1 ≤ i) : ∀ j, a ≤ j → a ≤ Sort.scanDown p d i j
  | 0, h => h
  | j + 1, h => by
    rw [Sort.scanDown]
    split
    · rename_i hh
      simp at hh
      exact down_ge d i a h1 j (by omega)
    · exact h
end
theorem pt_eq {d d1 : Array Int} {a b pv I J : Nat} (h1 : Sort.swp d a pv = d1) (hI : Sort.scanUp (fun x => Sort.ltInt x d1[a]!) d1 (b - 1) (a + 1) = I) (hJ : Sort.scanDown (fun x => !Sort.ltInt x d1[a]!) d1 I (b - 1) = J) :
    Sort.partition Sort.ltInt d a b pv = if I > J then (J, true, Sort.swp d1 J a) else ((Sort.partLoop Sort.ltInt a (I + 1) (J - 1) (Sort.swp d1 I J)).1, false, Sort.swp (Sort.partLoop Sort.ltInt a (I + 1) (J - 1) (Sort.swp d1 I J)).2 (Sort.partLoop Sort.ltInt a (I + 1) (J - 1) (Sort.swp d1 I J)).1 a) := by
  subst h1 hI hJ; rfl
theorem pl_eq {d : Array Int} {a i j I J : Nat} (hI : Sort.scanUp (fun x => Sort.ltInt x d[a]!) d j i = I) (hJ : Sort.scanDown (fun x => !Sort.ltInt x d[a]!) d I j = J) :
    Sort.partLoop Sort.ltInt a i j d = if I > J then (J, d) else Sort.partLoop Sort.ltInt a (I + 1) (J - 1) (Sort.swp d I J) := by
  have g1 : i ≤ I := hI ▸ up_ge _ d j i
  have g2 : J ≤ j := hJ ▸ down_le _ d I j
  conv => lhs; rw [Sort.partLoop]
  simp only [hI, hJ]
  by_cases h : I > J
  · rw [if_pos h, if_pos h]
  · rw [if_neg h, if_neg h, dif_pos (by omega)]
theorem pe_eq {d : Array Int} {a i j I J : Nat} (hI : Sort.scanUp (fun x => !Sort.ltInt d[a]! x) d j i = I) (hJ : Sort.scanDown (fun x => Sort.ltInt d[a]! x) d I j = J) :
    Sort.partEqLoop Sort.ltInt a i j d = if I > J then (I, d) else Sort.partEqLoop Sort.ltInt a (I + 1) (J - 1) (Sort.swp d I J) := by
  have g1 : i ≤ I := hI ▸ up_ge _ d j i
  have g2 : J ≤ j := hJ ▸ down_le _ d I j
  conv => lhs; rw [Sort.partEqLoop]
  simp only [hI, hJ]
  by_cases h : I > J
  · rw [if_pos h, if_pos h]
  · rw [if_neg h, if_neg h, dif_pos (by omega)]
theorem swp_a {d : Array Int} {a i j : Nat} (h1 : a ≠ i) (h2 : a ≠ j) : (Sort.swp d i j)[a]! = d[a]! := by
  unfold Sort.swp
  rw [Sort.getElem!_set_other _ _ _ _ h2, Sort.getElem!_set_other _ _ _ _ h1]
theorem results_two' {fn : Func} {t u : Tmp} (h : fn.results = #[.tmp t, .tmp u]) (tmps : Array Value) (P : Program) (w : World) :
    (results fn tmps).run P w = .ok (.tuple #[tmps.getD t undef, tmps.getD u undef]) w := by simp [results, h]
end Go.Proofs.Ytmgkdlkjcncniaa
