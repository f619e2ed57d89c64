/- What size.pairs hands out: the parcels of a list, two by two. -/
import Derived.RangeFuncNested
import Derived.RangeFuncBound
import Derived.RangeFuncCalls
import Derived.RangeFuncLeaves
import Derived.Shelf.Abstract
import Derived.Shelf.RegionOpen
import Derived.WalkKit
import Derived.OwnWalkIn
import Derived.TacticsInMore
import Derived.LoopNIn
import Derived.LoopIn
import Derived.Stop.RegionWithIn
import Derived.Test.YtoanhnebalapeaaSortQ
namespace Go.Proofs.Ytoanhnebalapeaa
open Go.RowKit Go.Shelf
attribute [local go_sem] Oper.semAt_some

/-- Two by two. -/
def pr : List Parcel → List (Parcel × Parcel)
  | a :: b :: t => (a, b) :: pr t
  | _ => []
theorem pr_length : ∀ l : List Parcel, (pr l).length = l.length / 2
  | [] => rfl
  | [_] => by simp [pr]
  | a :: b :: t => by simp [pr, pr_length t]; omega
theorem pr_get : ∀ (l : List Parcel) (k : Nat) (_ : k < (pr l).length), ∃ a b, l[2 * k]? = some a ∧ l[2 * k + 1]? = some b ∧ (pr l)[k]? = some (a, b)
  | [], k, h => by simp [pr] at h
  | [_], k, h => by simp [pr] at h
  | a :: b :: t, 0, h => ⟨a, b, rfl, rfl, rfl⟩
  | a :: b :: t, k + 1, h => by
    obtain ⟨x, y, h1, h2, h3⟩ := pr_get t k (by simpa [pr] using h)
    exact ⟨x, y, by rw [show 2 * (k + 1) = 2 * k + 1 + 1 from by omega]; simpa using h1, by rw [show 2 * (k + 1) + 1 = (2 * k + 1) + 1 + 1 from by omega]; simpa using h2, by simpa [pr] using h3⟩
def encP (x : Parcel × Parcel) : Array Value := #[.agg #[.int .i64 x.1.sum, .slice x.1.A x.1.n x.1.c], .agg #[.int .i64 x.2.sum, .slice x.2.A x.2.n x.2.c]]

/-- A pair that is handed out: one of the list's. -/
abbrev PP (ps : List Parcel) : Type := { x : Parcel × Parcel // x ∈ pr ps }
def encPP {ps : List Parcel} (x : PP ps) : Array Value := encP x.1
def allP (ps : List Parcel) : List (PP ps) := (pr ps).attach
theorem allP_length (ps : List Parcel) : (allP ps).length = ps.length / 2 := by unfold allP; rw [List.length_attach, pr_length]
theorem allP_val (ps : List Parcel) : (allP ps).map Subtype.val = pr ps := List.attach_map_subtype_val _
theorem allP_get (l : List Parcel) (k : Nat) (h : k < (allP l).length) : ∃ (a b : Parcel) (hm : (a, b) ∈ pr l), l[2 * k]? = some a ∧ l[2 * k + 1]? = some b ∧ (allP l)[k]? = some ⟨(a, b), hm⟩ := by
  obtain ⟨a, b, h1, h2, h3⟩ := pr_get l k (by rw [allP_length] at h; rw [pr_length]; exact h)
  refine ⟨a, b, List.mem_of_getElem? h3, h1, h2, ?_⟩
  have e := congrArg (fun m => m[k]?) (allP_val l)
  simp only [List.getElem?_map, h3] at e
  rw [List.getElem?_eq_getElem h] at e ⊢
  simp only [Option.map_some, Option.some.injEq] at e ⊢
  exact Subtype.ext e

/-- Two blocks lie as they lay. -/
def Keep2 (x y : Nat) (A B : World) : Prop := B.heap[x]? = A.heap[x]? ∧ B.heap[y]? = A.heap[y]?
theorem Keep2.refl (x y : Nat) (A : World) : Keep2 x y A A := ⟨rfl, rfl⟩
theorem Keep2.trans {x y : Nat} {A B C : World} (h : Keep2 x y A B) (k : Keep2 x y B C) : Keep2 x y A C := ⟨k.1.trans h.1, k.2.trans h.2⟩
theorem Keep2.cell1 {x y : Nat} {A B : World} (h : Keep2 x y A B) (i : Nat) : B.cell? ⟨x, i, none⟩ = A.cell? ⟨x, i, none⟩ := World.cell?_of_block (w := A) h.1
theorem Keep2.cell2 {x y : Nat} {A B : World} (h : Keep2 x y A B) (i : Nat) : B.cell? ⟨y, i, none⟩ = A.cell? ⟨y, i, none⟩ := World.cell?_of_block (w := A) h.2
theorem keep2_t {x y : Nat} {A B C : World} (h : Keep2 x y A B) (k : Keep2 x y B C) : Keep2 x y A C := h.trans k
theorem keep2_b {x y : Nat} {w : World} (hx : x < w.heap.size) (hy : y < w.heap.size) (W : World) (l : Nat) (o o' : Obj) (hl : w.heap.size ≤ l) (_ : W.heap[l]? = some o) (_ : o.isCells = false) (_ : o.isWalk = false) : Keep2 x y W (W.putObj l o') :=
  ⟨World.putObj_heap_other (by omega), World.putObj_heap_other (by omega)⟩

set_option maxRecDepth 100000 in
set_option maxHeartbeats 2000000 in
theorem pairs1_in (n : Nat) (hn : 1 ≤ n) (l Bs b len cap : Nat) (ps : List Parcel) (hlen : ps.length = len) (hreach : len ≤ 70368744177664) (J Jx : List (PP ps) → World → Prop) (hJd : ∀ pre W, J pre W → J pre W.drew)
    (hY : ∀ pre x W, J pre W → pre.length < len → YieldAt Fence.wide (n - 1) Try.prog l (encPP x) W fun e W' =>
      (e = .returned (.bool true) ∧ J (pre ++ [x]) W' ∧ Keep2 Bs b W W') ∨ (e = .returned (.bool false) ∧ Jx (pre ++ [x]) W'))
    (W : World) (hBs : W.cell? ⟨Bs, 0, none⟩ = some (.slice (some ⟨b, 0, none⟩) len cap)) (hc : ∀ i p, ps[i]? = some p → W.cell? ⟨b, i * 2, none⟩ = some (.int .i64 p.sum) ∧ W.cell? ⟨b, i * 2 + 1, none⟩ = some (.slice p.A p.n p.c)) (h0 : J [] W) :
    CallsIn Fence.wide n Try.prog 97 #[.func (.yield l) #[] #[], .pointer (some ⟨Bs, 0, none⟩)] W fun e W' => (∃ v, e = .returned v) ∧
      ((∃ ys, ys = allP ps ∧ J ys W') ∨ (∃ pre, (∃ k, pre = (allP ps).take k) ∧ Jx pre W')) := by
  have HC := Lib.hid hc; have HL := Lib.hid hlen; have HY := Lib.hid hY; have HJD := Lib.hid hJd
  have hro : Fence.wide.round = none := rfl
  clear hc hlen hY hJd
  refine callsIn_of_wp Try.func97 rfl trivial ?_ hro
  simp only [Try.ntmps97, List.size_toArray, List.length_cons, List.length_nil, Nat.reduceAdd, Nat.reduceSub, Array.replicate_succ, Array.replicate_zero, List.push_toArray, List.append_toArray, List.nil_append, List.cons_append]
  gi_wp2
  gi_loopw [3] (fun i wr => ∃ k : Nat, k ≤ len / 2 ∧ i = .int .i64 (2 * (k : Int)) ∧ Hid (J ((allP ps).take k) wr) ∧ Hid (Keep2 Bs b W wr)) (fun i _ => len - (intOf i).toNat)
  case atStart => exact ⟨0, Nat.zero_le _, rfl, h0, Keep2.refl _ _ _⟩
  case round =>
    obtain ⟨k, hk, rfl, HJ, HB⟩ := hrel
    have hBs' := (HB.out.cell1 0).trans hBs
    by_cases hlt : k < len / 2
    · obtain ⟨p, q, hmem, hp, hq, hpq⟩ := allP_get ps k (by rw [allP_length, HL.out]; exact hlt)
      obtain ⟨c1, c2⟩ := HC.out _ _ hp
      obtain ⟨c3, c4⟩ := HC.out _ _ hq
      have d1 := (HB.out.cell2 (2 * k * 2)).trans c1
      have d2 := (HB.out.cell2 (2 * k * 2 + 1)).trans c2
      have d3 := (HB.out.cell2 ((2 * k + 1) * 2)).trans c3
      have d4 := (HB.out.cell2 ((2 * k + 1) * 2 + 1)).trans c4
      have HPQ := Lib.hid hpq
      have hnext := Lib.hid (show (allP ps).take (k + 1) = (allP ps).take k ++ [⟨(p, q), hmem⟩] from by rw [List.take_add_one, hpq]; rfl)
      clear hp hq hpq c1 c2 c3 c4
      obtain ⟨fn, tmps, assign, body, hy, hR⟩ := HY.out ((allP ps).take k) ⟨(p, q), hmem⟩ wr.drew (HJD.out _ _ HJ.out) (by rw [List.length_take, allP_length, HL.out]; omega)
      unfold encPP encP at hy
      dsimp only at hy
      have hi1 : (0 : Int) ≤ 2 * (k : Int) := by omega
      have hi2 : 2 * (k : Int) < (len : Int) := by omega
      have hi3 : 2 * (k : Int) + 1 < (len : Int) := by omega
      have hi4 : IntKind.i64.wrap (2 * (k : Int) + 1) = 2 * (k : Int) + 1 := by rw [IntWalk.i64_in _ (by omega)]
      have hi5 : (2 * (k : Int)).toNat = 2 * k := by omega
      have hi6 : (2 * (k : Int) + 1).toNat = 2 * k + 1 := by omega
      have HR := Lib.hid (hR.mono (R' := fun e W' => ∃ bb : Bool, e = .returned (.bool bb) ∧ Hid (bb = true → J ((allP ps).take (k + 1)) W' ∧ Keep2 Bs b wr W') ∧ Hid (bb = false → Jx ((allP ps).take (k + 1)) W')) (fun e W' h => by
        rcases h with ⟨rfl, h1, h2⟩ | ⟨rfl, h1⟩
        · exact ⟨true, rfl, fun _ => ⟨by rw [hnext.out]; exact h1, h2⟩, fun h => (by cases h)⟩
        · exact ⟨false, rfl, fun h => (by cases h), fun _ => by rw [hnext.out]; exact h1⟩))
      clear hR
      gi_wp2
      gi_region_with (refine HR.out.mono ?_; rintro e W3 ⟨bb, rfl, h1, h2⟩)
      all_goals
        cases bb
        · gi_wp2
          refine bodyPost_ret (results_none rfl _ _ _) rfl ?_
          exact ⟨⟨_, rfl⟩, .inr ⟨_, ⟨k + 1, rfl⟩, h2.out (by first | rfl | trivial)⟩⟩
        · gi_wp2
          go_roundw
          case rel => exact ⟨k + 1, by omega, by go_num, (h1.out (by first | rfl | trivial)).1, HB.out.trans (h1.out (by first | rfl | trivial)).2⟩
          case measure => simp [intOf]; omega
    · have hkk : k = len / 2 := by omega
      have hge : ¬ 2 * (k : Int) + 1 < (len : Int) := by omega
      have hfin := HJ.out
      rw [hkk, List.take_of_length_le (by rw [allP_length, HL.out]; exact Nat.le_refl _)] at hfin
      have HF := Lib.hid hfin
      clear hfin
      gi_wp2
      go_end0
      first | exact ⟨⟨_, rfl⟩, .inl HF.out⟩ | exact ⟨⟨_, rfl⟩, .inl ⟨_, rfl, HF.out⟩⟩

theorem pairs_stops (n : Nat) (hn : 1 ≤ n) (Bs b len cap : Nat) (ps : List Parcel) (hlen : ps.length = len) (hreach : len ≤ 70368744177664) (w : World) (hb : b < w.heap.size) (hBn : Bs < w.heap.size)
    (hBs : w.cell? ⟨Bs, 0, none⟩ = some (.slice (some ⟨b, 0, none⟩) len cap)) (hc : ∀ i p, ps[i]? = some p → w.cell? ⟨b, i * 2, none⟩ = some (.int .i64 p.sum) ∧ w.cell? ⟨b, i * 2 + 1, none⟩ = some (.slice p.A p.n p.c)) :
    SeqStopsK Fence.wide n Try.prog 97 #[.pointer (some ⟨Bs, 0, none⟩)] encPP (Keep2 Bs b) (fun ys => ys = allP ps) (fun pre => ∃ k, pre = (allP ps).take k) len w :=
  fun l J Jx W hW hJ _ hY h0 =>
    pairs1_in n hn l Bs b len cap ps hlen hreach J Jx (fun pre W1 h => hJ pre W1 W1.drew none h ⟨rfl, rfl, rfl, Nat.le_refl _, fun _ _ _ => rfl⟩ (fun r e => by cases e)) hY W
      ((hW.cell (p := ⟨Bs, 0, none⟩) hBn).trans hBs) (fun i p h => ⟨(hW.cell (p := ⟨b, i * 2, none⟩) hb).trans (hc i p h).1, (hW.cell (p := ⟨b, i * 2 + 1, none⟩) hb).trans (hc i p h).2⟩) h0

set_option maxHeartbeats 400000 in
theorem pairs_any (A : Option Addr) (n c : Nat) (w : World) :
    Calls Try.prog 70 #[.slice A n c] w fun e w' => e = .returned (.func (.func 97) #[] #[.pointer (some ⟨w.heap.size, 0, none⟩)]) ∧ w' = w.alloc (.cells #[.slice A n c] 93) := by
  go_enter Try.func70, Try.ntmps70
  go_wp2
  go_ret
  exact ⟨rfl, rfl⟩
end Go.Proofs.Ytoanhnebalapeaa
