/- What Best answers at 5, 1, 1. No program in sight. -/
import Derived.Test.YtoanhnebalapeaaBestE
namespace Go.Proofs.Ytoanhnebalapeaa
open Srt Sz

theorem pm_511 : ∀ k, pm [⟨1, [1]⟩, ⟨1, [2]⟩, ⟨5, [0]⟩] (k + 2) = [⟨1, [1]⟩, ⟨1, [2]⟩, ⟨2, [1, 2]⟩, ⟨5, [0]⟩, ⟨7, [1, 2, 0]⟩]
  | 0 => by simp [pm, pairUp, mrg_cons, mrg_nil, mrg_nil']
  | k + 1 => by rw [pm_succ, pm_511 k]; simp [pairUp, mrg_cons, mrg_nil]
theorem best_511 {out : List Int} (h : BestIs [5, 1, 1] 15 out) : out = [1, 2, 2] := by
  rcases h with ⟨h, _⟩ | ⟨_, css, h1, h2, h3, rfl⟩
  · exact absurd h (by decide)
  · have e0 : (comeUp [5, 1, 1] ([5, 1, 1] : List Int).length).map (coin (ln [5, 1, 1])) = [coin (ln [5, 1, 1]) 0] ++ [coin (ln [5, 1, 1]) 1, coin (ln [5, 1, 1]) 2] := by
      rw [show comeUp [5, 1, 1] ([5, 1, 1] : List Int).length = [0, 1, 2] from by decide]; rfl
    unfold IsCoins at h1
    rw [e0] at h1
    have hsw : FEq Pk.sum ([coin (ln [5, 1, 1]) 0] ++ [coin (ln [5, 1, 1]) 1, coin (ln [5, 1, 1]) 2]) ([coin (ln [5, 1, 1]) 1, coin (ln [5, 1, 1]) 2] ++ [coin (ln [5, 1, 1]) 0]) := FEq.swap _ _ (by simp [coin, ln])
    have hup : Up ([coin (ln [5, 1, 1]) 1, coin (ln [5, 1, 1]) 2] ++ [coin (ln [5, 1, 1]) 0]) := by simp [Up, Sorted, coin, ln]
    have he := sorted_unique h3.up hup (h1.symm.trans hsw)
    have hl : css.length = 3 := by have := congrArg List.length he; simpa using this
    unfold bestS sel
    rw [he, hl]
    show lensS 3 (((pm [⟨1, [1]⟩, ⟨1, [2]⟩, ⟨5, [0]⟩] 14).take 4).flatMap Pk.syms) = _
    rw [pm_511 12]
    decide
end Go.Proofs.Ytoanhnebalapeaa
