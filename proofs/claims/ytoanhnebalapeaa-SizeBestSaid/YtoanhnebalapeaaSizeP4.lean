/- What every packet of the package-merge keeps: its symbols are some, not many, and small; its sum is bounded. -/
import Derived.Test.YtoanhnebalapeaaSizeP3
namespace Go.Proofs.Ytoanhnebalapeaa
open Srt
namespace Sz

structure Fine (m b : Nat) (q : Pk) : Prop where
  some_ : 1 ≤ q.syms.length
  few : q.syms.length ≤ 2 ^ b
  lo : 0 ≤ q.sum
  hi : q.sum ≤ 4294967296 * 2 ^ b
  lt : ∀ s ∈ q.syms, s < m
theorem Fine.up {m b : Nat} {q : Pk} (h : Fine m b q) : Fine m (b + 1) q :=
  ⟨h.some_, by have := h.few; rw [Nat.pow_succ]; omega, h.lo, by have := h.hi; have : (0 : Int) < 2 ^ b := Int.pow_pos (by decide); rw [Int.pow_succ]; omega, h.lt⟩
theorem Fine.two {m b : Nat} {p q : Pk} (h : Fine m b p) (k : Fine m b q) : Fine m (b + 1) ⟨p.sum + q.sum, p.syms ++ q.syms⟩ :=
  ⟨by have := h.some_; simp; omega, by have := h.few; have := k.few; rw [Nat.pow_succ]; simp; omega, by have := h.lo; have := k.lo; show 0 ≤ p.sum + q.sum; omega,
    by have := h.hi; have := k.hi; show p.sum + q.sum ≤ _; rw [Int.pow_succ]; omega, fun s hs => by rcases List.mem_append.1 hs with h1 | h1; exact h.lt s h1; exact k.lt s h1⟩
theorem pairUp_fine {m b : Nat} : ∀ l : List Pk, (∀ q ∈ l, Fine m b q) → ∀ q ∈ pairUp l, Fine m (b + 1) q
  | [], _, q, hq => by simp [pairUp] at hq
  | [_], _, q, hq => by simp [pairUp] at hq
  | x :: y :: t, h, q, hq => by
    rw [pairUp, List.mem_cons] at hq
    rcases hq with rfl | hq
    · exact (h x (by simp)).two (h y (by simp))
    · exact pairUp_fine t (fun q hq => h q (by simp [hq])) q hq
theorem pm_fine {m : Nat} (C : List Pk) (h : ∀ q ∈ C, Fine m 0 q) : ∀ k, ∀ q ∈ pm C k, Fine m k q
  | 0, q, hq => h q hq
  | k + 1, q, hq => by
    rw [pm_succ] at hq
    rcases mrg_mem hq with hq | hq
    · have h0 : ∀ b, Fine m b q := fun b => by induction b with | zero => exact h q hq | succ b ih => exact ih.up
      exact h0 _
    · exact pairUp_fine _ (pm_fine C h k) q hq
theorem coin_fine {m : Nat} {f : Nat → Int} {s : Nat} (h0 : 0 ≤ f s) (h1 : f s ≤ 4294967296) (hs : s < m) : Fine m 0 (coin f s) :=
  ⟨by simp [coin], by simp [coin], h0, by simpa [coin] using h1, fun t ht => by simp [coin] at ht; omega⟩
end Sz
end Go.Proofs.Ytoanhnebalapeaa
