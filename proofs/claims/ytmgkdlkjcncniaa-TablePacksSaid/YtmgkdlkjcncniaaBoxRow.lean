/- A picture that grows by appends: its box and its row. -/
import Derived.Test.YtmgkdlkjcncniaaRefTab2
import Derived.Test.YtmgkdlkjcncniaaLaws16B
namespace Go.Proofs.Ytmgkdlkjcncniaa
open Go.RowKit
open Go.Proofs.YtmgkdlkjcncniaaW.PrintWords

theorem some_own {w : World} {B s N : Nat} {e : TypeId} {v : Value} {xs : List Value} (h : w.ownsRow B e s v N xs) (hN : 0 < N) : ∃ g c, v = .slice (some ⟨g, 0, none⟩) N c ∧ B ≤ g ∧ g < w.heap.size := by
  rcases h.2 with ⟨_, h0⟩ | ⟨g, cap, cur, e1, e2, e3, _⟩
  · omega
  · exact ⟨g, cap, e1, e2, blk_lt e3⟩
theorem box_grown {wr w1 : World} {X s N : Nat} {e : TypeId} {v : Value} {xs : List Value} {o : Obj} (hc : wr.heap[X]? = some o) (ho : wr.ownsRow (X + 1) e s v N xs) (hg : wr.grownBy w1 v.ownBlock) : w1.heap[X]? = some o :=
  (hg.block X (blk_lt hc) (own_apart ho)).trans hc
theorem own_store {w1 : World} {X s N g c : Nat} {e : TypeId} {xs : List Value} (h : w1.ownsRow (X + 1) e s (.slice (some ⟨g, 0, none⟩) N c) N xs) (hg : X + 1 ≤ g) (u : Value) : (w1.setCell ⟨X, 2, none⟩ u).ownsRow (X + 1) e s (.slice (some ⟨g, 0, none⟩) N c) N xs :=
  own_mods h ((Mods.refl [X] w1).setCell (p := ⟨X, 2, none⟩) (.inl (by simp)) u) (by simp; omega)
theorem len_fill {f : Nat → Int} {t : Nat} : ((List.range t).map f).length = t := by simp
theorem fill_more {f : Nat → Int} {t : Nat} {y : Int} (h : y = f t) : (List.range t).map f ++ [y] = (List.range (t + 1)).map f := by rw [List.range_succ, List.map_append, h]; rfl
theorem qm {w t x y : Nat} (ht : t = y * w + x) (hx : x < w) : t / w = y ∧ t % w = x := by
  refine Tb.dm (q := y) (r := x) ?_ hx
  rw [ht, Nat.mul_comm]
theorem part2 (p : Int) : partP p 2 = p / 256 % 256 := rfl
theorem half_step {g : Int} (k : Nat) : g / 2 ^ k / 2 = g / 2 ^ (k + 1) := by
  rw [Int.pow_succ, Int.ediv_ediv_of_nonneg (Int.le_of_lt (by exact_mod_cast Nat.two_pow_pos k))]
theorem shr_room {g : Int} (h0 : 0 ≤ g) (h1 : g ≤ 255) (k : Nat) : 0 ≤ g / 2 ^ k ∧ g / 2 ^ k ≤ 255 := by
  have hp : (0 : Int) < 2 ^ k := Int.pow_pos (by omega)
  refine ⟨Int.ediv_nonneg h0 (by omega), ?_⟩
  have := Int.ediv_le_self (2 ^ k) h0
  omega
end Go.Proofs.Ytmgkdlkjcncniaa
