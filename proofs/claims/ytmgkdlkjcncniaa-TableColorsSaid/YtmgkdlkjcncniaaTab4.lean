/- slices.Backward over a table: what it hands out. -/
import Derived.RangeFuncNested
import Derived.RangeFuncBound
import Derived.RangeFuncCalls
import Derived.Shelf.Abstract
import Derived.WalkKit
import Derived.OwnWalkIn
import Derived.TacticsInMore
import Derived.LoopNIn
import Derived.LoopIn
import Derived.Stop.RegionWithIn
import Derived.Test.YtmgkdlkjcncniaaSeqOwn
import Derived.Test.YtmgkdlkjcncniaaTab1
namespace Go.Proofs.Ytmgkdlkjcncniaa
open Go.RowKit Go.Shelf
open Go.Proofs.YtmgkdlkjcncniaaW.PrintWords
attribute [local go_sem] Oper.semAt_some

theorem add_block1 (a : Addr) (k : Nat) : (a.add k).block = a.block := by unfold Addr.add; split <;> rfl
/-- From the last index to the first. -/
def down (m : Nat) : List (Fin m) := (List.finRange m).reverse
theorem down_length (m : Nat) : (down m).length = m := by simp [down]
theorem down_step {m k : Nat} (h : k < m) : (down m).take (m - k) = (down m).take (m - (k + 1)) ++ [⟨k, h⟩] := by
  have e : (down m)[m - (k + 1)]? = some ⟨k, h⟩ := by
    unfold down
    rw [List.getElem?_reverse (by simp; omega)]
    rw [List.getElem?_eq_getElem (by simp; omega)]
    simp
    omega
  rw [show m - k = (m - (k + 1)) + 1 by omega, List.take_add_one, e]; rfl
def encB (ls : List Int) {m : Nat} (x : Fin m) : Array Value := #[.int .i64 x.val, .int .u32 (ls.getD x.val 0)]

theorem backward_any (A : Option Addr) (n c : Nat) (w : World) :
    Calls Try.prog 38 #[.slice A n c] w fun e w' => e = .returned (.func (.func 53) #[] #[.pointer (some ⟨w.heap.size, 0, none⟩)]) ∧ w' = w.alloc (.cells #[.slice A n c] 22) := by
  go_enter Try.func38, Try.ntmps38
  go_wp2
  go_ret
  exact ⟨rfl, rfl⟩

set_option maxRecDepth 100000 in
set_option maxHeartbeats 2000000 in
theorem backward1_in (n : Nat) (hn : 1 ≤ n) (l Bs B : Nat) (ad : Addr) (m c : Nat) (ls : List Int) (hm : m ≤ 1000000) (J Jx : List (Fin m) → World → Prop)
    (hY : ∀ pre x W1, J pre W1 → B ≤ W1.heap.size → pre.length < m → YieldAt Fence.wide (n - 1) Try.prog l (encB ls x) W1 fun e W' =>
      ((e = .returned (.bool true) ∧ J (pre ++ [x]) W') ∨ (e = .returned (.bool false) ∧ Jx (pre ++ [x]) W')) ∧ Leaves B [Bs, ad.block] W1 W')
    (W : World) (hB : W.heap.size = B) (hBl : Bs < B) (hal : ad.block < B) (hBs : W.cell? ⟨Bs, 0, none⟩ = some (.slice (some ad) m c)) (hc : ∀ i, i < m → W.cell? (ad.add i) = some (.int .u32 (ls.getD i 0))) (h0 : J [] W) :
    CallsIn Fence.wide n Try.prog 53 #[.func (.yield l) #[] #[], .pointer (some ⟨Bs, 0, none⟩)] W fun e W' => (∃ v, e = .returned v) ∧
      ((∃ ys, ys = down m ∧ J ys W') ∨ (∃ pre, (∃ k, pre = (down m).take k) ∧ Jx pre W')) := by
  have HY := Lib.hid hY; have HC := Lib.hid hc
  have hro : Fence.wide.round = none := rfl
  clear hY hc
  refine callsIn_of_wp Try.func53 rfl trivial ?_ hro
  simp only [Try.ntmps53, List.size_toArray, List.length_cons, List.length_nil, Nat.reduceAdd, Nat.reduceSub, Array.replicate_succ, Array.replicate_zero, List.push_toArray, List.append_toArray, List.nil_append, List.cons_append]
  gi_wp2
  gi_loopw [3] (fun i wr => ∃ k : Nat, k ≤ m ∧ i = .int .i64 ((k : Int) - 1) ∧ Hid (J ((down m).take (m - k)) wr) ∧ Hid (wr.cell? ⟨Bs, 0, none⟩ = some (.slice (some ad) m c)) ∧ Hid (∀ i, i < m → wr.cell? (ad.add i) = some (.int .u32 (ls.getD i 0))) ∧ B ≤ wr.heap.size) (fun i _ => (intOf i + 1).toNat)
  case atStart => exact ⟨m, Nat.le_refl _, rfl, by show J _ _; rw [Nat.sub_self]; exact h0, hBs, HC.out, by omega⟩
  case round =>
    clear HC
    obtain ⟨k, hk, rfl, HJ, HBS, HC, hbz⟩ := hrel
    have hc1 := HBS.out
    cases k with
    | succ k =>
      have hk0 : ((k + 1 : Nat) : Int) - 1 = k := by omega
      rw [hk0]
      have hkm : (k : Int) < m := by omega
      have hcell := HC.out k (by omega)
      have hnext := Lib.hid (down_step (m := m) (k := k) (by omega))
      obtain ⟨fn, tmps, assign, body, hy, hR⟩ := HY.out ((down m).take (m - (k + 1))) ⟨k, by omega⟩ wr HJ.out hbz (by rw [List.length_take, down_length]; omega)
      unfold encB at hy
      dsimp only at hy
      have HR := Lib.hid (hR.mono (R' := fun e W' => ∃ bb : Bool, e = .returned (.bool bb) ∧ Hid (bb = true → J ((down m).take (m - k)) W') ∧ Hid (bb = false → Jx ((down m).take (m - k)) W') ∧ Hid (Leaves B [Bs, ad.block] wr W')) (fun e W' h => by
        rcases h with ⟨⟨rfl, h1⟩ | ⟨rfl, h1⟩, h2⟩
        · exact ⟨true, rfl, fun _ => by rw [hnext.out]; exact h1, fun h => (by cases h), h2⟩
        · exact ⟨false, rfl, fun h => (by cases h), fun _ => by rw [hnext.out]; exact h1, h2⟩))
      clear hR hk0
      generalize ls.getD k 0 = x at *
      gi_wp2
      refine HR.out.mono ?_
      rintro e W3 ⟨bb, rfl, h1, h2, h3⟩
      cases bb
      · gi_wp2
        refine bodyPost_ret (results_none rfl _ _ _) rfl ?_
        exact ⟨⟨_, rfl⟩, .inr ⟨_, ⟨m - k, rfl⟩, h2.out (by first | rfl | trivial)⟩⟩
      · gi_wp2
        go_roundw
        case rel => exact ⟨k, by omega, by go_num, h1.out (by first | rfl | trivial), (World.cell?_of_block (w := wr) (h3.out.same Bs (.inr (by simp)) (by omega))).trans HBS.out, fun i hi => (World.cell?_of_block (w := wr) (by rw [add_block1]; exact h3.out.same ad.block (.inr (by simp)) (by omega))).trans (HC.out i hi), Nat.le_trans hbz h3.out.size⟩
        case measure => simp [intOf]
    | zero =>
      have hfin := HJ.out
      rw [Nat.sub_zero, List.take_of_length_le (by rw [down_length]; exact Nat.le_refl _)] at hfin
      have HF := Lib.hid hfin
      clear hfin
      gi_wp2
      go_end0
      first | exact ⟨⟨_, rfl⟩, .inl HF.out⟩ | exact ⟨⟨_, rfl⟩, .inl ⟨_, rfl, HF.out⟩⟩

theorem backward_stops (n : Nat) (hn : 1 ≤ n) (Bs : Nat) (ad : Addr) (m c : Nat) (ls : List Int) (hm : m ≤ 1000000) (w : World) (hBl : Bs < w.heap.size) (hal : ad.block < w.heap.size)
    (hBs : w.cell? ⟨Bs, 0, none⟩ = some (.slice (some ad) m c)) (hc : ∀ i, i < m → w.cell? (ad.add i) = some (.int .u32 (ls.getD i 0))) :
    SeqOwn Fence.wide n Try.prog 53 #[.pointer (some ⟨Bs, 0, none⟩)] (encB ls (m := m)) [Bs, ad.block] (fun ys => ys = down m) (fun pre => ∃ k, pre = (down m).take k) m w :=
  fun l J Jx W hW _ _ hY h0 =>
    backward1_in n hn l Bs W.heap.size ad m c ls hm J Jx hY W rfl (by have := hW.size; omega) (by have := hW.size; omega) ((hW.cell (p := ⟨Bs, 0, none⟩) hBl).trans hBs)
      (fun i hi => (hW.cell (p := ad.add i) (by rw [add_block1]; exact hal)).trans (hc i hi)) h0
end Go.Proofs.Ytmgkdlkjcncniaa
