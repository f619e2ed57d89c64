/- Facts on parcels that the loop over pairs wants. -/
import Derived.Test.YtoanhnebalapeaaSizeY
import Derived.Test.YtoanhnebalapeaaPairs
import Derived.Test.YtoanhnebalapeaaRangeR
import Derived.Test.YtoanhnebalapeaaMarks2
import Derived.Test.YtoanhnebalapeaaCloneI
import Derived.Test.YtoanhnebalapeaaSizeP4
namespace Go.Proofs.Ytoanhnebalapeaa
open Go.RowKit
open Go.Proofs.YtoanhnebalapeaaW.PrintWords
open Srt Sz

/-- Block t holds no whole numbers. -/
def Calm (w : World) (t : Nat) : Prop := ∀ cs, w.heap[t]? ≠ some (.cells cs 3 (0, 0))
theorem SymOf.calm {T : List Nat} {w w' : World} {lo : Nat} {p : Parcel} {xs : List Nat} (h : SymOf w lo p xs) (hm : Mods T w w') (hT : ∀ t ∈ T, Calm w t) : SymOf w' lo p xs := by
  obtain ⟨h1, ad, cs, ha, hlo, hb, hx⟩ := h
  have hn : ad.block ∉ T := fun ht => hT _ ht cs hb
  have hbl : ∀ j, (ad.add j).block = ad.block := fun j => by unfold Addr.add; split <;> rfl
  exact ⟨h1, ad, cs, ha, hlo, hm.blk hb hn, fun j x hj => (World.cell?_of_block (w := w) (by rw [hbl]; exact hm.block _ (blk_lt hb) hn)).trans (hx j x hj)⟩
theorem Match.calm {T : List Nat} {w w' : World} {lo : Nat} {ps : List Parcel} {qs : List Pk} (h : Match w lo ps qs) (hm : Mods T w w') (hT : ∀ t ∈ T, Calm w t) : Match w' lo ps qs :=
  ⟨h.1, fun i p q hp hq => ⟨(h.2 i p q hp hq).1, (h.2 i p q hp hq).2.calm hm hT⟩⟩
theorem calm_row {w : World} {base n size : Nat} {e : TypeId} {v : Value} {xs : List Value} (h : w.ownsRow base e size v n xs) (he : e ≠ 3) : ∀ t ∈ v.ownBlock.toList, Calm w t := by
  intro t ht
  rcases h.2 with ⟨rfl, rfl⟩ | ⟨g, c, cur, rfl, hb, hh, _⟩
  · simp [Value.ownBlock] at ht
  · simp [Value.ownBlock] at ht
    subst ht
    intro cs hc
    rw [hh] at hc
    injection hc with hc; injection hc with _ h3 _
    exact he h3
theorem calm_box {w : World} {B : Nat} {t : TypeId} {v : Value} (h : Boxed w B t v) (he : t ≠ 3) : Calm w B := by
  intro cs hc
  rw [show w.heap[B]? = _ from h] at hc
  injection hc with hc; injection hc with _ h3 _
  exact he h3
theorem calm_other {w : World} {r : Nat} {o : Obj} (h : w.heap[r]? = some o) (ho : o.isCells = false) : Calm w r := by
  intro cs hc
  rw [h] at hc; cases hc; cases ho
theorem Mods.of_grown {w w' : World} {row : Option Nat} (hg : w.grownBy w' row) : Mods row.toList w w' := Mods.grown (Mods.refl _ _) hg (fun k hk => .inl (by simp [hk]))

def symInts (xs : List Nat) : List Int := xs.map Int.ofNat
theorem symInts_append (xs ys : List Nat) : symInts (xs ++ ys) = symInts xs ++ symInts ys := by simp [symInts]
theorem symInts_length (xs : List Nat) : (symInts xs).length = xs.length := by simp [symInts]
theorem SymOf.reads {w : World} {lo : Nat} {p : Parcel} {xs : List Nat} (h : SymOf w lo p xs) (hx : xs.length ≤ 100000) : ReadsInt w .i64 p.A p.n (symInts xs) := by
  obtain ⟨h1, ad, cs, ha, hlo, hb, hc⟩ := h
  refine ⟨by rw [symInts_length, h1], by omega, fun _ => ⟨ad, ha, fun j hj => ?_⟩⟩
  have hj' : j < xs.length := by omega
  have := hc j _ (List.getElem?_eq_getElem hj')
  rw [this]
  simp [symInts, List.getD_eq_getElem?_getD, hj']
theorem SymOf.of_own {w : World} {base lo g n c : Nat} {s : Int} {xs : List Nat} (h : w.ownsRow base 3 1 (.slice (some ⟨g, 0, none⟩) n c) n (nums .i64 (symInts xs))) (hlo : lo ≤ base) : SymOf w lo ⟨s, some ⟨g, 0, none⟩, n, c⟩ xs := by
  have hn : xs.length = n := by have := h.1; rw [nums_length, symInts_length] at this; omega
  have hr := own_reads' h
  rcases h.2 with ⟨he, _⟩ | ⟨g', cap, cur, he, hb, hh, _⟩
  · cases he
  · cases he
    refine ⟨hn.symm, ⟨g, 0, none⟩, cur, rfl, Nat.le_trans hlo hb, hh, fun j x hj => ?_⟩
    have hj' : j < xs.length := (List.getElem?_eq_some_iff.1 hj).1
    obtain ⟨ad, ha, hc⟩ := hr.2.2 (by omega)
    cases ha
    rw [hc j (by omega)]
    simp [symInts, List.getD_eq_getElem?_getD, hj]

/-- What each parcel of a list stands for. -/
structure Stands (w : World) (lo n k : Nat) (T : Parcel → Pk) (p : Parcel) : Prop where
  sum : p.sum = (T p).sum
  sym : SymOf w lo p (T p).syms
  fine : Fine n k (T p)
theorem Match.stands {w : World} {lo n k : Nat} {ps : List Parcel} {qs : List Pk} (h : Match w lo ps qs) (hf : ∀ q ∈ qs, Fine n k q) : ∀ p ∈ ps, Stands w lo n k (toPk w lo) p := by
  intro p hp
  obtain ⟨j, hj⟩ := List.getElem?_of_mem hp
  have hjq : j < qs.length := by rw [← h.1]; exact (List.getElem?_eq_some_iff.1 hj).1
  obtain ⟨h1, h2⟩ := h.2 j p _ hj (List.getElem?_eq_getElem hjq)
  have e := toPk_eq h1 h2
  exact ⟨by rw [e, h1], by rw [e]; exact h2, by rw [e]; exact hf _ (List.getElem_mem hjq)⟩
def joinP (T : Parcel → Pk) (x : Parcel × Parcel) : Pk := ⟨(T x.1).sum + (T x.2).sum, (T x.1).syms ++ (T x.2).syms⟩
theorem pr_join (T : Parcel → Pk) : ∀ l : List Parcel, (pr l).map (joinP T) = pairUp (l.map T)
  | [] => rfl
  | [_] => rfl
  | a :: b :: t => by simp [pr, pairUp, joinP, pr_join T t]
theorem pr_mem : ∀ (l : List Parcel) (x : Parcel × Parcel), x ∈ pr l → x.1 ∈ l ∧ x.2 ∈ l
  | [], x, h => by simp [pr] at h
  | [_], x, h => by simp [pr] at h
  | a :: b :: t, x, h => by
    rw [pr, List.mem_cons] at h
    rcases h with rfl | h
    · simp
    · have := pr_mem t x h; simp [this.1, this.2]
theorem allP_join (T : Parcel → Pk) (l : List Parcel) : (allP l).map (fun x => joinP T x.1) = pairUp (l.map T) := by
  rw [← pr_join]
  have e := congrArg (List.map (joinP T)) (allP_val l)
  rw [List.map_map] at e
  exact e

open Go in
theorem step_append_row {P : Program} {ops : Array Oper} {o : Oper} {a : Act} {Q : Exit → Act → World → Prop} {K : Act → World → Prop} {w0 W : World} (base : Nat) (hw : Region.wanted o (yielded ops a.tmps) = true) (s x : Operand) (t e : TypeId)
    (ho : o.op = .call { callee := .builtin .append, args := #[s, x], argTypes := #[t, t] })
    (ht : P.underlying t = some (.slice e)) (hinfo : (P.info? e).map (fun i => (i.zero, i.size, i.bytes)) = some (some (.int .i64 0), 1, 8))
    (v : Value) (n : Nat) (xs ys : List Int) (ad : Addr) (m c : Nat) (hs : a.eval s = v) (hx : a.eval x = .slice (some ad) m c)
    (HO : W.ownsRow base e 1 v n (nums .i64 xs)) (HR : ReadsInt W .i64 (some ad) m ys) (HB : Below base w0 W) (hbase : base ≤ W.heap.size) (hl : n + m ≤ 1000000)
    (h : ∀ v1 w1, w1.ownsRow base e 1 v1 (n + m) (nums .i64 (xs ++ ys)) → Below base w0 w1 → W.grownBy w1 v.ownBlock → (v1.ownBlock = v.ownBlock ∨ ∃ b, v1.ownBlock = some b ∧ W.heap.size ≤ b) → K (a.put o.dst v1) w1) :
    if Region.wanted o (yielded ops a.tmps) = true then Oper.wp P o a W K Q else K (a.put o.dst undef) W := by
  obtain ⟨i0, hi, hzz⟩ := Option.map_eq_some_iff.1 hinfo
  simp only [Prod.mk.injEq] at hzz
  obtain ⟨hz0, hz1, hz2⟩ := hzz
  rw [if_pos hw]
  have hm : ys.length = m := HR.1
  have hcells : ∀ j u, (nums .i64 ys)[j]? = some u → W.cell? (ad.add j) = some u := by
    intro j u hu
    have hj : j < ys.length := by have := (List.getElem?_eq_some_iff.1 hu).1; rwa [nums_length] at this
    obtain ⟨ad', e, hc⟩ := HR.2.2 (by omega)
    cases e
    rw [hc j (by omega)]
    simp only [nums, List.getElem?_map, List.getElem?_eq_getElem hj, Option.map_some] at hu
    rw [← hu, List.getD_eq_getElem?_getD, List.getElem?_eq_getElem hj]; rfl
  obtain ⟨v1, w1, hr, hown, hg, _, hat⟩ := run_append_own_at (P := P) W base t o.type e i0 (.int .i64 0) 1 8 ht hi hz0 hz1 hz2 rfl (by decide) v n (nums .i64 xs) HO ad m c (nums .i64 ys) (by rw [nums_length, hm]; omega)
    hcells (by intro u hu; simp only [nums, List.mem_map] at hu; obtain ⟨y, _, rfl⟩ := hu; rfl) (by simp only [maxLen]; omega) (by omega) hbase
  unfold Oper.wp execOp
  simp only [ho, resolve, invoke, builtin, Sem.run_bind, Sem.run_pure, Result.andThen_ok, List.map_toArray, List.map_cons, List.map_nil, hs, hx, hr]
  refine h v1 w1 (by rw [show nums .i64 (xs ++ ys) = nums .i64 xs ++ nums .i64 ys from by simp [nums]]; exact hown) (HB.grown hg (by simpa using hbase) (own_base HO)) hg ?_
  rcases hat with h1 | h1
  · exact .inl h1
  · exact .inr ⟨_, h1, by simp⟩
end Go.Proofs.Ytoanhnebalapeaa
