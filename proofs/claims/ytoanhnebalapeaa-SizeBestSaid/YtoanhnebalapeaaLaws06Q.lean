/- What lengths cost, as a sum. No program in sight. -/
import Derived.Test.YtoanhnebalapeaaLaws06P
namespace Go.Proofs.Ytoanhnebalapeaa
open Go.RowKit
open Srt Sz

theorem totS_sum (cs ls : List Int) (n : Nat) (hn : n ≤ 4096) (hc : ∀ s, 0 ≤ ln cs s ∧ ln cs s ≤ 4294967296) (hl : ∀ s, 0 ≤ ln ls s ∧ ln ls s ≤ 15) :
    ∀ k, k ≤ n → totS cs ls k = sumTo k (fun s => ln cs s * ln ls s) ∧ 0 ≤ totS cs ls k ∧ totS cs ls k ≤ 64424509440 * k
  | 0, _ => ⟨rfl, by simp [totS], by simp [totS]⟩
  | k + 1, hk => by
    obtain ⟨h1, h2, h3⟩ := totS_sum cs ls n hn hc hl k (by omega)
    have hp0 : 0 ≤ ln cs k * ln ls k := Int.mul_nonneg (hc k).1 (hl k).1
    have hp1 : ln cs k * ln ls k ≤ 4294967296 * 15 := Int.mul_le_mul (hc k).2 (hl k).2 (hl k).1 (by decide)
    have e1 : wrap64 (ln cs k * ln ls k) = ln cs k * ln ls k := w64 _ (by omega) (by omega)
    have e2 : totS cs ls (k + 1) = totS cs ls k + ln cs k * ln ls k := by
      show wrap64 (totS cs ls k + wrap64 (ln cs k * ln ls k)) = _
      rw [e1]
      exact w64 _ (by omega) (by omega)
    refine ⟨?_, by omega, by push_cast; omega⟩
    rw [e2, h1, sumTo_succ]
end Go.Proofs.Ytoanhnebalapeaa
