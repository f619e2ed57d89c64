/- Boxes and rows that grow (lemmas of Tab6, Laws16B, BoxRow, for a seat without them). -/
import Derived.Test.YtodpognmkbjlmaaGreatDoorTab2P
import Derived.Test.YtodpognmkbjlmaaGreatDoorPixP
namespace Go.Proofs.YtodpognmkbjlmaaGreatDoor
open Go.RowKit
open Go.Proofs.YtodpognmkbjlmaaGreatDoorW.PrintWords

theorem box3 {w : World} {g : Nat} {x y z : Value} {T : TypeId} (h : w.heap[g]? = some (.cells #[x, y, z] T (0, 0))) :
    w.cell? ⟨g, 0, none⟩ = some x ∧ w.cell? ⟨g, 1, none⟩ = some y ∧ w.cell? ⟨g, 2, none⟩ = some z ∧ w.frozen? ⟨g, 0, none⟩ = false ∧ w.frozen? ⟨g, 1, none⟩ = false ∧ w.frozen? ⟨g, 2, none⟩ = false :=
  ⟨by rw [cell_blk h]; rfl, by rw [cell_blk h]; rfl, by rw [cell_blk h]; rfl, free_blk h _, free_blk h _, free_blk h _⟩
theorem own_apart {w : World} {X s N : Nat} {e : TypeId} {v : Value} {xs : List Value} (h : w.ownsRow (X + 1) e s v N xs) : some X ≠ v.ownBlock := by
  rcases h.2 with ⟨rfl, _⟩ | ⟨g, cap, cur, rfl, hg, _⟩
  · simp [Value.ownBlock]
  · simp [Value.ownBlock]; omega

theorem own_rows {w : World} {X s N : Nat} {e : TypeId} {v : Value} {xs : List Value} (h : w.ownsRow (X + 1) e s v N xs) : ∀ r, v.ownBlock = some r → X + 1 ≤ r := by
  rcases h.2 with ⟨rfl, _⟩ | ⟨g, cap, cur, rfl, hg, _⟩
  · intro r h; simp [Value.ownBlock] at h
  · intro r h; simp [Value.ownBlock] at h; omega
theorem some_own {w : World} {B s N : Nat} {e : TypeId} {v : Value} {xs : List Value} (h : w.ownsRow B e s v N xs) (hN : 0 < N) : ∃ g c, v = .slice (some ⟨g, 0, none⟩) N c ∧ B ≤ g ∧ g < w.heap.size := by
  rcases h.2 with ⟨_, h0⟩ | ⟨g, cap, cur, e1, e2, e3, _⟩
  · omega
  · exact ⟨g, cap, e1, e2, blk_lt e3⟩
theorem box_grown {wr w1 : World} {X s N : Nat} {e : TypeId} {v : Value} {xs : List Value} {o : Obj} (hc : wr.heap[X]? = some o) (ho : wr.ownsRow (X + 1) e s v N xs) (hg : wr.grownBy w1 v.ownBlock) : w1.heap[X]? = some o :=
  (hg.block X (blk_lt hc) (own_apart ho)).trans hc
theorem own_store {w1 : World} {X s N g c : Nat} {e : TypeId} {xs : List Value} (h : w1.ownsRow (X + 1) e s (.slice (some ⟨g, 0, none⟩) N c) N xs) (hg : X + 1 ≤ g) (u : Value) : (w1.setCell ⟨X, 2, none⟩ u).ownsRow (X + 1) e s (.slice (some ⟨g, 0, none⟩) N c) N xs :=
  own_mods h ((Mods.refl [X] w1).setCell (p := ⟨X, 2, none⟩) (.inl (by simp)) u) (by simp; omega)
theorem len_fill {f : Nat → Int} {t : Nat} : ((List.range t).map f).length = t := by simp
theorem fill_more {f : Nat → Int} {t : Nat} {y : Int} (h : y = f t) : (List.range t).map f ++ [y] = (List.range (t + 1)).map f := by rw [List.range_succ, List.map_append, h]; rfl
theorem results_boxes {P : Program} {fn : Func} {p u : Tmp} {ty : TypeId} (h : fn.results = #[.cell p ty, .tmp u]) (tmps : Array Value) (w : World) (g : Nat) (t : TypeId) (cs : Array Value) (fr : Nat × Nat) (d : TypeDesc)
    (hp : tmps.getD p undef = .pointer (some ⟨g, 0, none⟩)) (hg : w.heap[g]? = some (.cells cs t fr))
    (hu : P.underlying ty = some d) (hd : (match d with | .struct _ | .array _ _ => true | _ => false) = true) (hi : (P.info? ty).map (·.size) = some cs.size) :
    (results fn tmps).run P w = .ok (.tuple #[.agg cs, tmps.getD u undef]) w := results_box h tmps w g t cs fr d hp hg hu hd hi
end Go.Proofs.YtodpognmkbjlmaaGreatDoor
