/- A function that holds a range over a function within a loop leaves with many marks among its deferred calls. -/
import Derived.RangeFuncLeaves
import Derived.RangeFuncNested
namespace Go.Proofs.Ytoanhnebalapeaa
open Go Go.RowKit

def mark (D : Nat) : Deferred := { target := .collected D, args := #[] }
/-- The marks stand for blocks that hand no call over. -/
def Marked (w : World) (lo : Nat) (Ds : List Nat) : Prop := Ds.Nodup ∧ ∀ D ∈ Ds, lo ≤ D ∧ w.heap[D]? = some (.deferred (some []))
/-- What lay lies, but for marks' blocks. -/
def Shut (lo : Nat) (w w' : World) : Prop := Below lo w w' ∧ ∀ (k : Nat) (o : Obj), w.heap[k]? = some o → o.isCells = true → w'.heap[k]? = some o
theorem Shut.refl (lo : Nat) (w : World) : Shut lo w w := ⟨Below.refl _ _, fun _ _ h _ => h⟩
theorem Shut.trans {lo : Nat} {a b c : World} (h : Shut lo a b) (k : Shut lo b c) : Shut lo a c := ⟨h.1.trans k.1, fun i o h1 h2 => k.2 i o (h.2 i o h1 h2) h2⟩
theorem Shut.put {lo D : Nat} {w : World} (hD : lo ≤ D) (h : w.heap[D]? = some (.deferred (some []))) : Shut lo w (w.putObj D (.deferred none)) :=
  ⟨(Below.refl lo w).grown (grownBy_putObj' w D (.deferred none)) (by have := (Array.getElem?_eq_some_iff.1 h).1; omega) (fun k e => by cases e; omega),
   fun k o h1 h2 => by
    have hne : k ≠ D := fun e => by subst e; rw [h] at h1; cases h1; cases h2
    exact (World.putObj_heap_other hne).trans h1⟩
theorem leaves_marks {P : Program} {F : Fence} {n : Nat} {fn : Func} {tmps : Array Value} {R : Ending → World → Prop} (lo : Nat) (v : Value) : ∀ (Ds : List Nat) (w : World), Marked w lo Ds →
    (∀ w', Shut lo w w' → (results fn tmps).run P w' = .ok v w' ∧ R (.returned v) w') → LeavesInM F n P fn tmps R (Ds.map mark) .returning w
  | [], w, _, h => ⟨v, (h w (Shut.refl _ _)).1, (h w (Shut.refl _ _)).2⟩
  | D :: Ds, w, hm, h => by
    obtain ⟨hnd, hall⟩ := hm
    obtain ⟨h1, h2⟩ := hall D (by simp)
    have hs := Shut.put h1 h2
    refine ⟨by simp, .inl ⟨D, _, rfl, run_takeDeferred h2, leaves_marks lo v Ds _ ⟨(List.nodup_cons.1 hnd).2, fun E hE => ?_⟩ (fun w' hw' => h w' (hs.trans hw'))⟩⟩
    obtain ⟨h3, h4⟩ := hall E (by simp [hE])
    exact ⟨h3, (World.putObj_heap_other (fun e => (List.nodup_cons.1 hnd).1 (by rw [← e]; exact hE))).trans h4⟩
theorem Marked.nil (w : World) (lo : Nat) : Marked w lo [] := ⟨List.nodup_nil, fun _ h => by simp at h⟩
theorem Marked.later {w w' : World} {lo : Nat} {Ds : List Nat} (h : Marked w lo Ds) (hk : ∀ (k : Nat) (o : Obj), w.heap[k]? = some o → o.isCells = false → w'.heap[k]? = some o) : Marked w' lo Ds :=
  ⟨h.1, fun D hD => ⟨(h.2 D hD).1, hk _ _ (h.2 D hD).2 rfl⟩⟩
theorem Marked.cons {w : World} {lo D : Nat} {Ds : List Nat} (h : Marked w lo Ds) (hD : lo ≤ D) (hd : w.heap[D]? = some (.deferred (some []))) (hn : D ∉ Ds) : Marked w lo (D :: Ds) :=
  ⟨List.nodup_cons.2 ⟨hn, h.1⟩, fun E hE => by rcases List.mem_cons.1 hE with rfl | hE; exact ⟨hD, hd⟩; exact h.2 E hE⟩
end Go.Proofs.Ytoanhnebalapeaa
