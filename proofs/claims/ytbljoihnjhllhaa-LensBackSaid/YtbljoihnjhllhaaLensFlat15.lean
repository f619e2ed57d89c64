/- Facts on parcels that the loop over pairs wants. -/
import Derived.Test.YtbljoihnjhllhaaLensFlat14
import Derived.Test.YtbljoihnjhllhaaLensFlat3
namespace Go.Proofs.Ytbljoihnjhllhaa
open Go.RowKit
open Go.Proofs.YtbljoihnjhllhaaW.PrintWords
open Srt Sz

/-- Block t holds no whole numbers. -/
def Calm (w : World) (t : Nat) : Prop := ∀ cs, w.heap[t]? ≠ some (.cells cs 3 (0, 0))
theorem SymOf.calm {T : List Nat} {w w' : World} {lo : Nat} {p : Parcel} {xs : List Nat} (h : SymOf w lo p xs) (hm : Mods T w w') (hT : ∀ t ∈ T, Calm w t) : SymOf w' lo p xs := by
  obtain ⟨h1, ad, cs, ha, hlo, hb, hx⟩ := h
  have hn : ad.block ∉ T := fun ht => hT _ ht cs hb
  have hbl : ∀ j, (ad.add j).block = ad.block := fun j => by unfold Addr.add; split <;> rfl
  exact ⟨h1, ad, cs, ha, hlo, hm.blk hb hn, fun j x hj => (World.cell?_of_block (w := w) (by rw [hbl]; exact hm.block _ (blk_lt hb) hn)).trans (hx j x hj)⟩
theorem Match.calm {T : List Nat} {w w' : World} {lo : Nat} {ps : List Parcel} {qs : List Pk} (h : Match w lo ps qs) (hm : Mods T w w') (hT : ∀ t ∈ T, Calm w t) : Match w' lo ps qs :=
  ⟨h.1, fun i p q hp hq => ⟨(h.2 i p q hp hq).1, (h.2 i p q hp hq).2.calm hm hT⟩⟩
theorem calm_row {w : World} {base n size : Nat} {e : TypeId} {v : Value} {xs : List Value} (h : w.ownsRow base e size v n xs) (he : e ≠ 3) : ∀ t ∈ v.ownBlock.toList, Calm w t := by
  intro t ht
  rcases h.2 with ⟨rfl, rfl⟩ | ⟨g, c, cur, rfl, hb, hh, _⟩
  · simp [Value.ownBlock] at ht
  · simp [Value.ownBlock] at ht
    subst ht
    intro cs hc
    rw [hh] at hc
    injection hc with hc; injection hc with _ h3 _
    exact he h3
theorem calm_box {w : World} {B : Nat} {t : TypeId} {v : Value} (h : Boxed w B t v) (he : t ≠ 3) : Calm w B := by
  intro cs hc
  rw [show w.heap[B]? = _ from h] at hc
  injection hc with hc; injection hc with _ h3 _
  exact he h3
theorem calm_other {w : World} {r : Nat} {o : Obj} (h : w.heap[r]? = some o) (ho : o.isCells = false) : Calm w r := by
  intro cs hc
  rw [h] at hc; cases hc; cases ho
theorem Mods.of_grown {w w' : World} {row : Option Nat} (hg : w.grownBy w' row) : Mods row.toList w w' := Mods.grown (Mods.refl _ _) hg (fun k hk => .inl (by simp [hk]))

def symInts (xs : List Nat) : List Int := xs.map Int.ofNat
theorem symInts_append (xs ys : List Nat) : symInts (xs ++ ys) = symInts xs ++ symInts ys := by simp [symInts]
theorem symInts_length (xs : List Nat) : (symInts xs).length = xs.length := by simp [symInts]
theorem SymOf.reads {w : World} {lo : Nat} {p : Parcel} {xs : List Nat} (h : SymOf w lo p xs) (hx : xs.length ≤ 100000) : ReadsInt w .i64 p.A p.n (symInts xs) := by
  obtain ⟨h1, ad, cs, ha, hlo, hb, hc⟩ := h
  refine ⟨by rw [symInts_length, h1], by omega, fun _ => ⟨ad, ha, fun j hj => ?_⟩⟩
  have hj' : j < xs.length := by omega
  have := hc j _ (List.getElem?_eq_getElem hj')
  rw [this]
  simp [symInts, List.getD_eq_getElem?_getD, hj']
theorem SymOf.of_own {w : World} {base lo g n c : Nat} {s : Int} {xs : List Nat} (h : w.ownsRow base 3 1 (.slice (some ⟨g, 0, none⟩) n c) n (nums .i64 (symInts xs))) (hlo : lo ≤ base) : SymOf w lo ⟨s, some ⟨g, 0, none⟩, n, c⟩ xs := by
  have hn : xs.length = n := by have := h.1; rw [nums_length, symInts_length] at this; omega
  have hr := own_reads' h
  rcases h.2 with ⟨he, _⟩ | ⟨g', cap, cur, he, hb, hh, _⟩
  · cases he
  · cases he
    refine ⟨hn.symm, ⟨g, 0, none⟩, cur, rfl, Nat.le_trans hlo hb, hh, fun j x hj => ?_⟩
    have hj' : j < xs.length := (List.getElem?_eq_some_iff.1 hj).1
    obtain ⟨ad, ha, hc⟩ := hr.2.2 (by omega)
    cases ha
    rw [hc j (by omega)]
    simp [symInts, List.getD_eq_getElem?_getD, hj]

/-- What each parcel of a list stands for. -/
structure Stands (w : World) (lo n k : Nat) (T : Parcel → Pk) (p : Parcel) : Prop where
  sum : p.sum = (T p).sum
  sym : SymOf w lo p (T p).syms
  fine : Fine n k (T p)
theorem Match.stands {w : World} {lo n k : Nat} {ps : List Parcel} {qs : List Pk} (h : Match w lo ps qs) (hf : ∀ q ∈ qs, Fine n k q) : ∀ p ∈ ps, Stands w lo n k (toPk w lo) p := by
  intro p hp
  obtain ⟨j, hj⟩ := List.getElem?_of_mem hp
  have hjq : j < qs.length := by rw [← h.1]; exact (List.getElem?_eq_some_iff.1 hj).1
  obtain ⟨h1, h2⟩ := h.2 j p _ hj (List.getElem?_eq_getElem hjq)
  have e := toPk_eq h1 h2
  exact ⟨by rw [e, h1], by rw [e]; exact h2, by rw [e]; exact hf _ (List.getElem_mem hjq)⟩
def joinP (T : Parcel → Pk) (x : Parcel × Parcel) : Pk := ⟨(T x.1).sum + (T x.2).sum, (T x.1).syms ++ (T x.2).syms⟩
theorem pr_join (T : Parcel → Pk) : ∀ l : List Parcel, (pr l).map (joinP T) = pairUp (l.map T)
  | [] => rfl
  | [_] => rfl
  | a :: b :: t => by simp [pr, pairUp, joinP, pr_join T t]
theorem pr_mem : ∀ (l : List Parcel) (x : Parcel × Parcel), x ∈ pr l → x.1 ∈ l ∧ x.2 ∈ l
  | [], x, h => by simp [pr] at h
  | [_], x, h => by simp [pr] at h
  | a :: b :: t, x, h => by
    rw [pr, List.mem_cons] at h
    rcases h with rfl | h
    · simp
    · have := pr_mem t x h; simp [this.1, this.2]
theorem allP_join (T : Parcel → Pk) (l : List Parcel) : (allP l).map (fun x => joinP T x.1) = pairUp (l.map T) := by
  rw [← pr_join]
  have e := congrArg (List.map (joinP T)) (allP_val l)
  rw [List.map_map] at e
  exact e

open Go in
theorem step_append_row {P : Program} {ops : Array Oper} {o : Oper} {a : Act} {Q : Exit → Act → World → Prop} {K : Act → World → Prop} {w0 W : World} (base : Nat) (hw : Region.wanted o (yielded ops a.tmps) = true) (s x : Operand) (t e : TypeId)
    (ho : o.op = .call { callee := .builtin .append, args := #[s, x], argTypes := #[t, t] })
    (ht : P.underlying t = some (.slice e)) (hinfo : (P.info? e).map (fun i => (i.zero, i.size, i.bytes)) = some (some (.int .i64 0), 1, 8))
    (v : Value) (n : Nat) (xs ys : List Int) (ad : Addr) (m c : Nat) (hs : a.eval s = v) (hx : a.eval x = .slice (some ad) m c)
    (HO : W.ownsRow base e 1 v n (nums .i64 xs)) (HR : ReadsInt W .i64 (some ad) m ys) (HB : Below base w0 W) (hbase : base ≤ W.heap.size) (hl : n + m ≤ 1000000)
    (h : ∀ v1 w1, w1.ownsRow base e 1 v1 (n + m) (nums .i64 (xs ++ ys)) → Below base w0 w1 → W.grownBy w1 v.ownBlock → (v1.ownBlock = v.ownBlock ∨ ∃ b, v1.ownBlock = some b ∧ W.heap.size ≤ b) → K (a.put o.dst v1) w1) :
    if Region.wanted o (yielded ops a.tmps) = true then Oper.wp P o a W K Q else K (a.put o.dst undef) W := by
  obtain ⟨i0, hi, hzz⟩ := Option.map_eq_some_iff.1 hinfo
  simp only [Prod.mk.injEq] at hzz
  obtain ⟨hz0, hz1, hz2⟩ := hzz
  rw [if_pos hw]
  have hm : ys.length = m := HR.1
  have hcells : ∀ j u, (nums .i64 ys)[j]? = some u → W.cell? (ad.add j) = some u := by
    intro j u hu
    have hj : j < ys.length := by have := (List.getElem?_eq_some_iff.1 hu).1; rwa [nums_length] at this
    obtain ⟨ad', e, hc⟩ := HR.2.2 (by omega)
    cases e
    rw [hc j (by omega)]
    simp only [nums, List.getElem?_map, List.getElem?_eq_getElem hj, Option.map_some] at hu
    rw [← hu, List.getD_eq_getElem?_getD, List.getElem?_eq_getElem hj]; rfl
  obtain ⟨v1, w1, hr, hown, hg, _, hat⟩ := run_append_own_at (P := P) W base t o.type e i0 (.int .i64 0) 1 8 ht hi hz0 hz1 hz2 rfl (by decide) v n (nums .i64 xs) HO ad m c (nums .i64 ys) (by rw [nums_length, hm]; omega)
    hcells (by intro u hu; simp only [nums, List.mem_map] at hu; obtain ⟨y, _, rfl⟩ := hu; rfl) (by simp only [maxLen]; omega) (by omega) hbase
  unfold Oper.wp execOp
  simp only [ho, resolve, invoke, builtin, Sem.run_bind, Sem.run_pure, Result.andThen_ok, List.map_toArray, List.map_cons, List.map_nil, hs, hx, hr]
  refine h v1 w1 (by rw [show nums .i64 (xs ++ ys) = nums .i64 xs ++ nums .i64 ys from by simp [nums]]; exact hown) (HB.grown hg (by simpa using hbase) (own_base HO)) hg ?_
  rcases hat with h1 | h1
  · exact .inl h1
  · exact .inr ⟨_, h1, by simp⟩
end Go.Proofs.Ytbljoihnjhllhaa

/- The loop over pairs: what stands between its rounds, and a round's end. No program in sight. -/
namespace Go.Proofs.Ytbljoihnjhllhaa
open Go.RowKit
open Go.Proofs.YtbljoihnjhllhaaW.PrintWords
open Srt Sz

/-- Between two rounds: box NB holds a row of parcels for the pairs that have come. -/
def RangeI {α : Type} (NB lo : Nat) (W0 : World) (F : α → Pk) (pre : List α) (W : World) : Prop :=
  (∃ (v : Value) (ps : List Parcel), Boxed W NB 90 v ∧ W.ownsRow W0.heap.size 93 2 v ps.length (pcs ps) ∧ Match W lo ps (pre.map F)) ∧ Mods [NB] W0 W
theorem rangeI_own {α : Type} (NB lo : Nat) (W0 : World) (F : α → Pk) : OwnFrom W0.heap.size (RangeI NB lo W0 F) := by
  rintro pre X Y row ⟨⟨v, ps, h1, h2, h3⟩, h4⟩ hg hr
  have hc : ∀ t ∈ row.toList, Calm X t := fun t ht => by
    obtain ⟨_, o, ho, hn⟩ := hr t (by simpa using ht)
    exact calm_other ho hn
  refine ⟨⟨v, ps, ?_, ?_, h3.calm (Mods.of_grown hg) hc⟩, Mods.grown h4 hg (fun k hk => .inr (hr k hk).1)⟩
  · refine h1.kept hg (fun e => ?_)
    obtain ⟨_, o, ho, hn⟩ := hr NB e.symm
    rw [show X.heap[NB]? = _ from h1] at ho; cases ho; cases hn
  · refine h2.kept hg ?_
    rcases h2.2 with ⟨rfl, _⟩ | ⟨g, cap, cur, rfl, hb, hh, _⟩
    · exact .inl rfl
    · refine .inr (fun e => ?_)
      obtain ⟨_, o, ho, hn⟩ := hr g (by rw [← e]; rfl)
      rw [hh] at ho; cases ho; cases hn
/-- The round's own variables lie in boxes of their own. -/
def RangeA (NB : Nat) (B : Nat) (x : Parcel × Parcel) (A1 B1 : Nat) (W : World) : Prop :=
  ∃ v, Boxed W NB 90 v ∧ v.ownBlock ≠ some A1 ∧ v.ownBlock ≠ some B1 ∧ W.heap[A1]? = some (.cells x.1.cells.toArray 93 (0, 0)) ∧ W.heap[B1]? = some (.cells x.2.cells.toArray 93 (0, 0)) ∧ B ≤ A1 ∧ B ≤ B1
theorem rangeA_own {β : Type} (NB B : Nat) (x : Parcel × Parcel) (A1 B1 C : Nat) : OwnFrom C (fun (_ : β) W => RangeA NB B x A1 B1 W) := by
  rintro _ X Y row ⟨v, h1, h2, h3, h4, h5, h6⟩ hg hr
  have hk : ∀ (k : Nat) (o : Obj), X.heap[k]? = some o → o.isCells = true → Y.heap[k]? = some o := fun k o ho hc => by
    refine (hg.block k (blk_lt ho) (fun e => ?_)).trans ho
    obtain ⟨_, o', ho', hn⟩ := hr k e.symm
    rw [ho] at ho'; cases ho'; rw [hc] at hn; cases hn
  exact ⟨v, hk _ _ h1 rfl, h2, h3, hk _ _ h4 rfl, hk _ _ h5 rfl, h6⟩

/-- A round's end. -/
theorem range_end {α : Type} {NB lo gl s n12 g2 c2 g3 c3 : Nat} {W0 W W2 W3 : World} {F : α → Pk} {pre : List α} {x : α} {v : Value} {ps : List Parcel} {sum : Int} {syms : List Nat}
    (hNB : NB + 2 = W0.heap.size) (hlo : lo ≤ NB) (hgl : gl < NB) (h1 : Boxed W NB 90 v) (h2 : W.ownsRow W0.heap.size 93 2 v ps.length (pcs ps)) (h3 : Match W lo ps (pre.map F)) (h4 : Mods [NB] W0 W)
    (hB2 : Below W.heap.size W W2) (hO2 : W2.ownsRow W.heap.size 3 1 (.slice (some ⟨g2, 0, none⟩) n12 c2) n12 (nums .i64 (symInts syms))) (hF : F x = ⟨sum, syms⟩)
    (hO3 : W3.ownsRow W0.heap.size 93 2 (.slice (some ⟨g3, 0, none⟩) (ps.length + 1) c3) (ps.length + 1) (pcs ps ++ [.int .i64 sum, .slice (some ⟨g2, 0, none⟩) n12 c2])) (hg3 : W2.grownBy W3 v.ownBlock) (hs : s = ps.length + 1) :
    KeepsFrom W0.heap.size W (W3.setCell ⟨NB, 0, none⟩ (.slice (some ⟨g3, 0, none⟩) s c3)) ∧ Keep2 (NB + 1) gl W (W3.setCell ⟨NB, 0, none⟩ (.slice (some ⟨g3, 0, none⟩) s c3)) ∧ RangeI NB lo W0 F (pre ++ [x]) (W3.setCell ⟨NB, 0, none⟩ (.slice (some ⟨g3, 0, none⟩) s c3)) := by
  subst hs
  have hz : W0.heap.size ≤ W.heap.size := h4.size
  have hvb : ∀ k, v.ownBlock = some k → W0.heap.size ≤ k ∧ k < W.heap.size := h2.lt
  have hm2 : Mods [] W W2 := ⟨hB2.os, hB2.tape, hB2.output, hB2.size, fun k hk _ => hB2.block k hk⟩
  have hm3 : Mods v.ownBlock.toList W2 W3 := Mods.of_grown hg3
  have hbox2 : Boxed W2 NB 90 v := hm2.blk h1 (by simp)
  have hbox3 : Boxed W3 NB 90 v := hm3.blk hbox2 (by intro h; have := hvb NB (by simpa using h); omega)
  have hm4 : Mods [NB] W3 (W3.setCell ⟨NB, 0, none⟩ (.slice (some ⟨g3, 0, none⟩) (ps.length + 1) c3)) := (Mods.refl [NB] W3).setCell (by simp) _
  have hrow2 : W2.ownsRow W0.heap.size 93 2 v ps.length (pcs ps) := pw_own_below h2 hB2
  have hcalm2 : ∀ t ∈ v.ownBlock.toList, Calm W2 t := calm_row hrow2 (by decide)
  have hcalm3 : ∀ t ∈ [NB], Calm W3 t := by intro t ht; simp at ht; subst ht; exact calm_box hbox3 (by decide)
  have hsym : SymOf W2 lo ⟨sum, some ⟨g2, 0, none⟩, n12, c2⟩ syms := SymOf.of_own hO2 (by omega)
  have hall : Mods (NB :: v.ownBlock.toList) W (W3.setCell ⟨NB, 0, none⟩ (.slice (some ⟨g3, 0, none⟩) (ps.length + 1) c3)) :=
    ((hm2.mono (by simp)).trans (hm3.mono (by intro k hk; simp at hk ⊢; exact .inr hk))).trans (hm4.mono (by simp))
  refine ⟨⟨hall.size, fun k o hk ho hc => hall.blk ho ?_⟩, ⟨hall.block _ (by omega) ?_, hall.block _ (by omega) ?_⟩, ⟨_, ps ++ [⟨sum, some ⟨g2, 0, none⟩, n12, c2⟩], hbox3.set _, ?_, ?_⟩, ?_⟩
  · intro hm
    rcases List.mem_cons.1 hm with hk' | hm
    · rw [hk', show W.heap[NB]? = _ from h1] at ho; cases ho; cases hc
    · rcases h2.2 with ⟨rfl, _⟩ | ⟨g, cap, cur, rfl, hb, hh, _⟩
      · simp [Value.ownBlock] at hm
      · simp [Value.ownBlock] at hm; subst hm; rw [hh] at ho; cases ho; cases hc
  · intro hm
    rcases List.mem_cons.1 hm with hm | hm
    · omega
    · have := hvb _ (by simpa using hm); omega
  · intro hm
    rcases List.mem_cons.1 hm with hm | hm
    · omega
    · have := hvb _ (by simpa using hm); omega
  · have e : W3.ownsRow W0.heap.size 93 2 (.slice (some ⟨g3, 0, none⟩) (ps.length + 1) c3) (ps ++ [(⟨sum, some ⟨g2, 0, none⟩, n12, c2⟩ : Parcel)]).length (pcs (ps ++ [⟨sum, some ⟨g2, 0, none⟩, n12, c2⟩])) := by
      rw [pcs_append, List.length_append]; exact hO3
    refine e.kept (grownBy_setCell' W3 NB _) (.inr (fun e2 => ?_))
    have := own_base hO3 NB (by rw [e2])
    omega
  · rw [List.map_append]
    refine (Match.app (((h3.calm hm2 (by simp)).calm hm3 hcalm2)) ?_).calm hm4 hcalm3
    rw [List.map_cons, List.map_nil, hF]
    exact Match.one rfl (hsym.calm hm3 hcalm2)
  · refine ((h4.trans (hm2.mono (by simp))).trans_new hm3 (fun r hr => .inr (hvb r (by simpa using hr)).1)).trans hm4
theorem own_shut {w w' : World} {base n size lo : Nat} {e : TypeId} {v : Value} {xs : List Value} (h : w.ownsRow base e size v n xs) (hS : Shut lo w w') : w'.ownsRow base e size v n xs := by
  refine ⟨h.1, ?_⟩
  rcases h.2 with h2 | ⟨g, cap, cur, h1, hb, hh, h3⟩
  · exact .inl h2
  · exact .inr ⟨g, cap, cur, h1, hb, hS.2 _ _ hh rfl, h3⟩
theorem lensS_snoc (n : Nat) (l : List Nat) (x : Nat) (hx : x < n) : (lensS n l).set x (ln (lensS n l) x + 1) = lensS n (l ++ [x]) := by
  apply List.ext_getElem?
  intro i
  rw [lensS_ln n l x hx]
  by_cases hi : i < n
  · by_cases he : x = i
    · subst he
      rw [List.getElem?_set_self (by rw [lensS_length]; exact hx)]
      simp [lensS, hx, List.count_append]
    · rw [List.getElem?_set_ne he]
      simp [lensS, hi, List.count_append, List.count_cons, he]
  · rw [List.getElem?_eq_none (by rw [List.length_set, lensS_length]; omega), List.getElem?_eq_none (by rw [lensS_length]; omega)]
end Go.Proofs.Ytbljoihnjhllhaa
