/- The loop over pairs: what stands between its rounds, and a round's end. No program in sight. -/
import Derived.Test.YtoanhnebalapeaaBestB
namespace Go.Proofs.Ytoanhnebalapeaa
open Go.RowKit
open Go.Proofs.YtoanhnebalapeaaW.PrintWords
open Srt Sz

/-- Between two rounds: box NB holds a row of parcels for the pairs that have come. -/
def RangeI {α : Type} (NB lo : Nat) (W0 : World) (F : α → Pk) (pre : List α) (W : World) : Prop :=
  (∃ (v : Value) (ps : List Parcel), Boxed W NB 93 v ∧ W.ownsRow W0.heap.size 96 2 v ps.length (pcs ps) ∧ Match W lo ps (pre.map F)) ∧ Mods [NB] W0 W
theorem rangeI_own {α : Type} (NB lo : Nat) (W0 : World) (F : α → Pk) : OwnFrom W0.heap.size (RangeI NB lo W0 F) := by
  rintro pre X Y row ⟨⟨v, ps, h1, h2, h3⟩, h4⟩ hg hr
  have hc : ∀ t ∈ row.toList, Calm X t := fun t ht => by
    obtain ⟨_, o, ho, hn⟩ := hr t (by simpa using ht)
    exact calm_other ho hn
  refine ⟨⟨v, ps, ?_, ?_, h3.calm (Mods.of_grown hg) hc⟩, Mods.grown h4 hg (fun k hk => .inr (hr k hk).1)⟩
  · refine h1.kept hg (fun e => ?_)
    obtain ⟨_, o, ho, hn⟩ := hr NB e.symm
    rw [show X.heap[NB]? = _ from h1] at ho; cases ho; cases hn
  · refine h2.kept hg ?_
    rcases h2.2 with ⟨rfl, _⟩ | ⟨g, cap, cur, rfl, hb, hh, _⟩
    · exact .inl rfl
    · refine .inr (fun e => ?_)
      obtain ⟨_, o, ho, hn⟩ := hr g (by rw [← e]; rfl)
      rw [hh] at ho; cases ho; cases hn
/-- The round's own variables lie in boxes of their own. -/
def RangeA (NB : Nat) (B : Nat) (x : Parcel × Parcel) (A1 B1 : Nat) (W : World) : Prop :=
  ∃ v, Boxed W NB 93 v ∧ v.ownBlock ≠ some A1 ∧ v.ownBlock ≠ some B1 ∧ W.heap[A1]? = some (.cells x.1.cells.toArray 96 (0, 0)) ∧ W.heap[B1]? = some (.cells x.2.cells.toArray 96 (0, 0)) ∧ B ≤ A1 ∧ B ≤ B1
theorem rangeA_own {β : Type} (NB B : Nat) (x : Parcel × Parcel) (A1 B1 C : Nat) : OwnFrom C (fun (_ : β) W => RangeA NB B x A1 B1 W) := by
  rintro _ X Y row ⟨v, h1, h2, h3, h4, h5, h6⟩ hg hr
  have hk : ∀ (k : Nat) (o : Obj), X.heap[k]? = some o → o.isCells = true → Y.heap[k]? = some o := fun k o ho hc => by
    refine (hg.block k (blk_lt ho) (fun e => ?_)).trans ho
    obtain ⟨_, o', ho', hn⟩ := hr k e.symm
    rw [ho] at ho'; cases ho'; rw [hc] at hn; cases hn
  exact ⟨v, hk _ _ h1 rfl, h2, h3, hk _ _ h4 rfl, hk _ _ h5 rfl, h6⟩

/-- A round's end. -/
theorem range_end {α : Type} {NB lo gl s n12 g2 c2 g3 c3 : Nat} {W0 W W2 W3 : World} {F : α → Pk} {pre : List α} {x : α} {v : Value} {ps : List Parcel} {sum : Int} {syms : List Nat}
    (hNB : NB + 2 = W0.heap.size) (hlo : lo ≤ NB) (hgl : gl < NB) (h1 : Boxed W NB 93 v) (h2 : W.ownsRow W0.heap.size 96 2 v ps.length (pcs ps)) (h3 : Match W lo ps (pre.map F)) (h4 : Mods [NB] W0 W)
    (hB2 : Below W.heap.size W W2) (hO2 : W2.ownsRow W.heap.size 3 1 (.slice (some ⟨g2, 0, none⟩) n12 c2) n12 (nums .i64 (symInts syms))) (hF : F x = ⟨sum, syms⟩)
    (hO3 : W3.ownsRow W0.heap.size 96 2 (.slice (some ⟨g3, 0, none⟩) (ps.length + 1) c3) (ps.length + 1) (pcs ps ++ [.int .i64 sum, .slice (some ⟨g2, 0, none⟩) n12 c2])) (hg3 : W2.grownBy W3 v.ownBlock) (hs : s = ps.length + 1) :
    KeepsFrom W0.heap.size W (W3.setCell ⟨NB, 0, none⟩ (.slice (some ⟨g3, 0, none⟩) s c3)) ∧ Keep2 (NB + 1) gl W (W3.setCell ⟨NB, 0, none⟩ (.slice (some ⟨g3, 0, none⟩) s c3)) ∧ RangeI NB lo W0 F (pre ++ [x]) (W3.setCell ⟨NB, 0, none⟩ (.slice (some ⟨g3, 0, none⟩) s c3)) := by
  subst hs
  have hz : W0.heap.size ≤ W.heap.size := h4.size
  have hvb : ∀ k, v.ownBlock = some k → W0.heap.size ≤ k ∧ k < W.heap.size := h2.lt
  have hm2 : Mods [] W W2 := ⟨hB2.os, hB2.tape, hB2.output, hB2.size, fun k hk _ => hB2.block k hk⟩
  have hm3 : Mods v.ownBlock.toList W2 W3 := Mods.of_grown hg3
  have hbox2 : Boxed W2 NB 93 v := hm2.blk h1 (by simp)
  have hbox3 : Boxed W3 NB 93 v := hm3.blk hbox2 (by intro h; have := hvb NB (by simpa using h); omega)
  have hm4 : Mods [NB] W3 (W3.setCell ⟨NB, 0, none⟩ (.slice (some ⟨g3, 0, none⟩) (ps.length + 1) c3)) := (Mods.refl [NB] W3).setCell (by simp) _
  have hrow2 : W2.ownsRow W0.heap.size 96 2 v ps.length (pcs ps) := pw_own_below h2 hB2
  have hcalm2 : ∀ t ∈ v.ownBlock.toList, Calm W2 t := calm_row hrow2 (by decide)
  have hcalm3 : ∀ t ∈ [NB], Calm W3 t := by intro t ht; simp at ht; subst ht; exact calm_box hbox3 (by decide)
  have hsym : SymOf W2 lo ⟨sum, some ⟨g2, 0, none⟩, n12, c2⟩ syms := SymOf.of_own hO2 (by omega)
  have hall : Mods (NB :: v.ownBlock.toList) W (W3.setCell ⟨NB, 0, none⟩ (.slice (some ⟨g3, 0, none⟩) (ps.length + 1) c3)) :=
    ((hm2.mono (by simp)).trans (hm3.mono (by intro k hk; simp at hk ⊢; exact .inr hk))).trans (hm4.mono (by simp))
  refine ⟨⟨hall.size, fun k o hk ho hc => hall.blk ho ?_⟩, ⟨hall.block _ (by omega) ?_, hall.block _ (by omega) ?_⟩, ⟨_, ps ++ [⟨sum, some ⟨g2, 0, none⟩, n12, c2⟩], hbox3.set _, ?_, ?_⟩, ?_⟩
  · intro hm
    rcases List.mem_cons.1 hm with hk' | hm
    · rw [hk', show W.heap[NB]? = _ from h1] at ho; cases ho; cases hc
    · rcases h2.2 with ⟨rfl, _⟩ | ⟨g, cap, cur, rfl, hb, hh, _⟩
      · simp [Value.ownBlock] at hm
      · simp [Value.ownBlock] at hm; subst hm; rw [hh] at ho; cases ho; cases hc
  · intro hm
    rcases List.mem_cons.1 hm with hm | hm
    · omega
    · have := hvb _ (by simpa using hm); omega
  · intro hm
    rcases List.mem_cons.1 hm with hm | hm
    · omega
    · have := hvb _ (by simpa using hm); omega
  · have e : W3.ownsRow W0.heap.size 96 2 (.slice (some ⟨g3, 0, none⟩) (ps.length + 1) c3) (ps ++ [(⟨sum, some ⟨g2, 0, none⟩, n12, c2⟩ : Parcel)]).length (pcs (ps ++ [⟨sum, some ⟨g2, 0, none⟩, n12, c2⟩])) := by
      rw [pcs_append, List.length_append]; exact hO3
    refine e.kept (grownBy_setCell' W3 NB _) (.inr (fun e2 => ?_))
    have := own_base hO3 NB (by rw [e2])
    omega
  · rw [List.map_append]
    refine (Match.app (((h3.calm hm2 (by simp)).calm hm3 hcalm2)) ?_).calm hm4 hcalm3
    rw [List.map_cons, List.map_nil, hF]
    exact Match.one rfl (hsym.calm hm3 hcalm2)
  · refine ((h4.trans (hm2.mono (by simp))).trans_new hm3 (fun r hr => .inr (hvb r (by simpa using hr)).1)).trans hm4
theorem own_shut {w w' : World} {base n size lo : Nat} {e : TypeId} {v : Value} {xs : List Value} (h : w.ownsRow base e size v n xs) (hS : Shut lo w w') : w'.ownsRow base e size v n xs := by
  refine ⟨h.1, ?_⟩
  rcases h.2 with h2 | ⟨g, cap, cur, h1, hb, hh, h3⟩
  · exact .inl h2
  · exact .inr ⟨g, cap, cur, h1, hb, hS.2 _ _ hh rfl, h3⟩
theorem lensS_snoc (n : Nat) (l : List Nat) (x : Nat) (hx : x < n) : (lensS n l).set x (ln (lensS n l) x + 1) = lensS n (l ++ [x]) := by
  apply List.ext_getElem?
  intro i
  rw [lensS_ln n l x hx]
  by_cases hi : i < n
  · by_cases he : x = i
    · subst he
      rw [List.getElem?_set_self (by rw [lensS_length]; exact hx)]
      simp [lensS, hx, List.count_append]
    · rw [List.getElem?_set_ne he]
      simp [lensS, hi, List.count_append, List.count_cons, he]
  · rw [List.getElem?_eq_none (by rw [List.length_set, lensS_length]; omega), List.getElem?_eq_none (by rw [lensS_length]; omega)]
end Go.Proofs.Ytoanhnebalapeaa
