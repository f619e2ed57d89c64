/- What package group does: a group of five codes, of lengths that are complete. -/
import Derived.Test.YtfeloicmkcfinaaDoorGrp1
namespace Go.Proofs.YtfeloicmkcfinaaDoor
open Go.RowKit
open Go.Proofs.YtfeloicmkcfinaaDoorW.PrintWords
open Srt

theorem IsTree.up {w : World} {B hi hi' : Nat} {ls os : List Int} (h : IsTree w B hi ls os) (h1 : hi ≤ hi') (h2 : hi' ≤ w.heap.size) : IsTree w B hi' ls os := by
  obtain ⟨a, b, c, d, e, Al, cl, Ac, cc, Ao, co, hk, r1, r2, r3, l1, l2, l3⟩ := h
  exact ⟨by omega, h2, c, d, e, Al, cl, Ac, cc, Ao, co, hk, r1, r2, r3, fun ad h => by have := l1 ad h; omega, fun ad h => by have := l2 ad h; omega, fun ad h => by have := l3 ad h; omega⟩
/-- The five pointers, the first k of them laid. -/
def tp (B : Nat → Nat) (k j : Nat) : Value := if j < k then .pointer (some ⟨B j, 0, none⟩) else .pointer none
def trees (B : Nat → Nat) (k : Nat) : Array Value := #[tp B k 0, tp B k 1, tp B k 2, tp B k 3, tp B k 4]
def five (A : Nat → Option Addr) (n c : Nat → Nat) : Array Value := #[.slice (A 0) (n 0) (c 0), .slice (A 1) (n 1) (c 1), .slice (A 2) (n 2) (c 2), .slice (A 3) (n 3) (c 3), .slice (A 4) (n 4) (c 4)]
theorem trees_set (B : Nat → Nat) (k b : Nat) (hk : k < 5) : (trees B k).setIfInBounds k (.pointer (some ⟨b, 0, none⟩)) = trees (fun j => if j = k then b else B j) (k + 1) := by
  have hks : k = 0 ∨ k = 1 ∨ k = 2 ∨ k = 3 ∨ k = 4 := by omega
  rcases hks with rfl | rfl | rfl | rfl | rfl <;> simp [trees, tp]
theorem trees_get (B : Nat → Nat) (k j : Nat) (hj : j < 5) : (trees B k)[j]? = some (tp B k j) := by
  have hks : j = 0 ∨ j = 1 ∨ j = 2 ∨ j = 3 ∨ j = 4 := by omega
  rcases hks with rfl | rfl | rfl | rfl | rfl <;> rfl
theorem trees_none : #[Value.pointer none, .pointer none, .pointer none, .pointer none, .pointer none] = trees (fun _ => 0) 0 := rfl
/-- A group: five codes. -/
def IsGrp (w : World) (G hi : Nat) (ls : Nat → List Int) : Prop :=
  hi ≤ w.heap.size ∧ G < hi ∧ ∃ (B : Nat → Nat) (os : Nat → List Int), w.heap[G]? = some (.cells (trees B 5) 56 (0, 0)) ∧ ∀ k, k < 5 → IsTree w (B k) hi (ls k) (os k)
theorem IsGrp.below {w w' : World} {G hi : Nat} {ls : Nat → List Int} (h : IsGrp w G hi ls) (hb : Below hi w w') : IsGrp w' G hi ls := by
  obtain ⟨h1, h2, B, os, hk, ht⟩ := h
  exact ⟨Nat.le_trans h1 hb.size, h2, B, os, (hb.block G h2).trans hk, fun k hk => (ht k hk).below hb⟩
theorem IsGrp.mods {S : List Nat} {w w' : World} {G hi : Nat} {ls : Nat → List Int} (h : IsGrp w G hi ls) (hm : Mods S w w') (hs : ∀ s ∈ S, hi ≤ s) : IsGrp w' G hi ls :=
  h.below ⟨hm.os, hm.tape, hm.output, hm.size, fun k hk => hm.block k (Nat.lt_of_lt_of_le hk h.1) (fun hm' => by have := hs k hm'; omega)⟩

theorem block_other {w : World} {G : Nat} {cs : Array Value} {T : TypeId} {fr : Nat × Nat} (h : w.heap[G]? = some (.cells cs T fr)) (hcs : ∀ v ∈ cs.toList, ∀ k x, v ≠ Value.int k x) {a : Addr} {k : IntKind} {x : Int} (hc : w.cell? a = some (.int k x)) : a.block ≠ G := by
  intro e
  unfold World.cell? at hc
  rw [e, h] at hc
  simp only at hc
  split at hc
  · cases hc
  · exact hcs _ (by simpa using Array.mem_of_getElem? hc) k x rfl
theorem ReadsInt.store {w w' : World} {G : Nat} {cs : Array Value} {T : TypeId} {fr : Nat × Nat} {k : IntKind} {A : Option Addr} {n : Nat} {xs : List Int} (hr : ReadsInt w k A n xs) (hm : Mods [G] w w') (h : w.heap[G]? = some (.cells cs T fr)) (hcs : ∀ v ∈ cs.toList, ∀ k x, v ≠ Value.int k x) : ReadsInt w' k A n xs :=
  ⟨hr.1, hr.2.1, fun hn => by
    obtain ⟨ad, e, hc⟩ := hr.2.2 hn
    refine ⟨ad, e, fun j hj => ?_⟩
    have h1 := hc j hj
    exact (World.cell?_of_block (w := w) (hm.block _ (World.block_lt_of_cell? w _ h1) (by simpa using block_other h hcs h1))).trans h1⟩
theorem IsTree.store {w w' : World} {G B hi : Nat} {cs : Array Value} {T : TypeId} {fr : Nat × Nat} {ls os : List Int} (ht : IsTree w B hi ls os) (hm : Mods [G] w w') (h : w.heap[G]? = some (.cells cs T fr)) (hcs : ∀ v ∈ cs.toList, ∀ k x, v ≠ Value.int k x) (hB : B ≠ G) : IsTree w' B hi ls os := by
  obtain ⟨a, b, c, d, e, Al, cl, Ac, cc, Ao, co, hk, r1, r2, r3, l1, l2, l3⟩ := ht
  exact ⟨a, Nat.le_trans b hm.size, c, d, e, Al, cl, Ac, cc, Ao, co, hm.blk hk (by simpa using hB), ReadsInt.store r1 hm h hcs, ReadsInt.store r2 hm h hcs, ReadsInt.store r3 hm h hcs, l1, l2, l3⟩
theorem trees_ptr (B : Nat → Nat) (k : Nat) : ∀ v ∈ (trees B k).toList, ∀ q x, v ≠ Value.int q x := by
  intro v hv q x e
  subst e
  simp only [trees, tp, List.mem_cons, List.not_mem_nil, or_false] at hv
  rcases hv with h | h | h | h | h <;> (split at h <;> cases h)
theorem index_five (A : Nat → Option Addr) (n c : Nat → Nat) (k : Nat) (hk : k < 5) (W : World) : (Instr.index 27 (.agg (five A n c)) (.int .i64 k)).run Tryd.prog W = .ok (.slice (A k) (n k) (c k)) W := by
  have hks : k = 0 ∨ k = 1 ∨ k = 2 ∨ k = 3 ∨ k = 4 := by omega
  rcases hks with rfl | rfl | rfl | rfl | rfl <;> simp [five, Instr.index, run_underlying Tryd.underlying27, asIntOf, go_sem]

set_option maxHeartbeats 4000000 in
theorem new_good (A : Nat → Option Addr) (n cc : Nat → Nat) (ls : Nat → List Int) (c : Nat) (w : World) (hc : c ≤ 11) (HR : ∀ k, k < 5 → ReadsInt w .i64 (A k) (n k) (ls k)) (hnc : ∀ k, k < 5 → n k ≤ cc k) (hn : ∀ k, k < 5 → n k = szN c k) (hz : ∀ k, k < 5 → checkS (ls k) = 0) :
    Calls Tryd.prog 6 #[.agg (five A n cc), .int .i64 c] w fun e w' => Below w.heap.size w w' ∧ ∃ G, e = .returned (.tuple #[.pointer (some ⟨G, 0, none⟩), .int .i64 0]) ∧ w.heap.size ≤ G ∧ IsGrp w' G w'.heap.size ls := by
  have HRR := Lib.hid HR; have HNC := Lib.hid hnc; have HN := Lib.hid hn; have HZ := Lib.hid hz
  have HMAY := Lib.hid (fun W => may_in c W hc)
  have HIX := Lib.hid (fun k (hk : k < 5) W => index_five A n cc k hk W)
  have hb0 := (Below.refl _ w).alloc (Nat.le_refl _) (.cells (five A n cc) 27)
  have HB0 := Lib.hid hb0
  have HX0 := Lib.hid (alloc_new w (five A n cc) 27)
  clear HR hnc hn hz hb0
  go_enter Tryd.func6, Tryd.ntmps6
  go_wp2_with fail
  refine (sizes_in c _ hc).mono ?_
  rintro e w1 ⟨rfl, hB⟩
  have HB1 := Lib.hid (below_then HB0.out HB0.out.size hB)
  have hz1 := HB1.out.size
  have HX1 := Lib.hid ((Mods.of_below hB []).blk HX0.out (by simp))
  clear hB
  obtain ⟨x0, x1, x2, x3, x4⟩ := box5 (show w1.heap[w.heap.size]? = some (.cells #[.slice (A 0) (n 0) (cc 0), .slice (A 1) (n 1) (cc 1), .slice (A 2) (n 2) (cc 2), .slice (A 3) (n 3) (cc 3), .slice (A 4) (n 4) (cc 4)] 27 (0, 0)) from HX1.out)
  have hxl : w.heap.size < w1.heap.size := blk_lt HX1.out
  have HSA : Hid (szA c = #[.int .i64 (greenN c), .int .i64 256, .int .i64 256, .int .i64 256, .int .i64 40]) := Lib.hid rfl
  rw [HSA.out]
  go_wp2_with fail
  have HB2 := Lib.hid (HB1.out.alloc hz1 (.cells #[.int .i64 (greenN c), .int .i64 256, .int .i64 256, .int .i64 256, .int .i64 40] 50))
  have HY2 := Lib.hid (alloc_new w1 #[.int .i64 (greenN c), .int .i64 256, .int .i64 256, .int .i64 256, .int .i64 40] 50)
  have hz2 := HB2.out.size
  have HX2 := Lib.hid ((Mods.alloc (Mods.refl [] w1) (.cells #[.int .i64 (greenN c), .int .i64 256, .int .i64 256, .int .i64 256, .int .i64 40] 50)).blk HX1.out (by simp))
  clear x0 x1 x2 x3 x4 hxl HX1 HX0 HB0
  generalize hw2 : w1.alloc (.cells #[.int .i64 (greenN c), .int .i64 256, .int .i64 256, .int .i64 256, .int .i64 40] 50) = w2 at *
  have hw2s : w1.heap.size < w2.heap.size := by rw [← hw2]; simp
  clear hw2
  generalize w1.heap.size = X at *
  go_loopw [7, 8, 17] (fun _ _ i wr => ∃ k : Nat, k ≤ 5 ∧ i = .int .i64 k ∧ wr = w2) (fun _ _ i _ => 5 - (intOf i).toNat)
  case atStart => exact ⟨0, by omega, rfl, rfl⟩
  case round =>
    obtain ⟨k, hk, rfl, rfl⟩ := hrel
    by_cases hlt : k < 5
    · have hix : ∀ W, (Instr.index 27 (.agg #[.slice (A 0) (n 0) (cc 0), .slice (A 1) (n 1) (cc 1), .slice (A 2) (n 2) (cc 2), .slice (A 3) (n 3) (cc 3), .slice (A 4) (n 4) (cc 4)]) (.int .i64 k)).run Tryd.prog W = .ok (.slice (A k) (n k) (cc k)) W := HIX.out k hlt
      have hcell : wr.cell? ⟨X, k, none⟩ = some (.int .i64 (n k)) := by
        rw [cell_blk HY2.out, HN.out k hlt]
        have hks : k = 0 ∨ k = 1 ∨ k = 2 ∨ k = 3 ∨ k = 4 := by omega
        rcases hks with rfl | rfl | rfl | rfl | rfl <;> rfl
      have hne : (((n k : Nat) : Int) != ((n k : Nat) : Int)) = false := by simp
      have k1 : decide ((k : Int) < 5) = true := decide_eq_true (by omega)
      have k2 : (k : Int) < 5 := by omega
      go_wp2_with fail
      refine (HMAY.out _).mono ?_
      rintro e w' ⟨rfl, rfl⟩
      go_wp2_with fail
      go_roundw
      case rel => exact ⟨k + 1, by omega, by go_num, by first | rfl | trivial⟩
      case measure => simp [intOf]; omega
    · obtain rfl : k = 5 := by omega
      have HXG := Lib.hid ((Mods.alloc (Mods.refl [] wr) (.cells #[.pointer none, .pointer none, .pointer none, .pointer none, .pointer none] 56)).blk HX2.out (by simp))
      obtain ⟨x0, x1, x2, x3, x4⟩ := box5 (show (wr.alloc (.cells #[.pointer none, .pointer none, .pointer none, .pointer none, .pointer none] 56)).heap[w.heap.size]? = some (.cells #[.slice (A 0) (n 0) (cc 0), .slice (A 1) (n 1) (cc 1), .slice (A 2) (n 2) (cc 2), .slice (A 3) (n 3) (cc 3), .slice (A 4) (n 4) (cc 4)] 27 (0, 0)) from HXG.out)
      go_wp2_with fail
      have HB3 := Lib.hid (HB2.out.alloc hz2 (.cells #[.pointer none, .pointer none, .pointer none, .pointer none, .pointer none] 56))
      have HG3 := Lib.hid (alloc_new wr #[.pointer none, .pointer none, .pointer none, .pointer none, .pointer none] 56)
      clear x0 x1 x2 x3 x4 HXG HX2 HB1 HY2
      generalize hw3 : wr.alloc (.cells #[.pointer none, .pointer none, .pointer none, .pointer none, .pointer none] 56) = w3 at *
      have hw3s : wr.heap.size < w3.heap.size := by rw [← hw3]; simp
      clear hw3
      generalize wr.heap.size = G at *
      rw [trees_none] at HG3
      go_loopw [10, 11, 12, 13, 36] (fun _ _ _ _ i wq => ∃ (k : Nat) (B : Nat → Nat) (os : Nat → List Int), k ≤ 5 ∧ i = .int .i64 k ∧ Hid (wq.heap[G]? = some (.cells (trees B k) 56 (0, 0))) ∧ Hid (∀ j, j < k → IsTree wq (B j) wq.heap.size (ls j) (os j) ∧ B j ≠ G) ∧ Hid (Below w.heap.size w wq)) (fun _ _ _ _ i _ => 5 - (intOf i).toNat)
      case atStart => exact ⟨0, fun _ => 0, fun _ => [], by omega, rfl, HG3, Lib.hid (fun j hj => by omega), HB3⟩
      case round =>
        clear HG3 HB3
        obtain ⟨k, B, os, hk, rfl, HG, HT, HBq⟩ := hrel
        by_cases hlt : k < 5
        · have hix : ∀ W, (Instr.index 27 (.agg #[.slice (A 0) (n 0) (cc 0), .slice (A 1) (n 1) (cc 1), .slice (A 2) (n 2) (cc 2), .slice (A 3) (n 3) (cc 3), .slice (A 4) (n 4) (cc 4)]) (.int .i64 k)).run Tryd.prog W = .ok (.slice (A k) (n k) (cc k)) W := HIX.out k hlt
          have k1 : decide ((k : Int) < 5) = true := decide_eq_true (by omega)
          have k2 : (k : Int) < 5 := by omega
          have hnb : n k ≤ 17592186044416 := by
            have h1 := HN.out k hlt
            have h2 := greenN_le hc
            unfold szN at h1
            rw [h1]
            split <;> (try split) <;> omega
          go_wp2_with fail
          refine (tree_new (A k) (n k) (cc k) (ls k) wr ((HRR.out k hlt).below HBq.out) hnb (HNC.out k hlt) (HZ.out k hlt)).mono ?_
          rintro e w4 ⟨hB4, b, o4, rfl, hb4, ht4⟩
          have hGq : G < wr.heap.size := blk_lt HG.out
          have HG4 := Lib.hid ((Mods.of_below hB4 []).blk HG.out (by simp))
          have HB4 := Lib.hid (below_then HBq.out HBq.out.size hB4)
          have HT4 := Lib.hid (show ∀ j, j < k → IsTree w4 (B j) w4.heap.size (ls j) (os j) ∧ B j ≠ G from fun j hj => ⟨((HT.out j hj).1.below hB4).up hB4.size (Nat.le_refl _), (HT.out j hj).2⟩)
          have HN4 := Lib.hid ht4
          have HBG := Lib.hid (show b ≠ G from by omega)
          have hcell : w4.cell? ⟨G, k, none⟩ = some (tp B k k) := by rw [cell_blk HG4.out]; exact trees_get B k k hlt
          have hfr : w4.frozen? ⟨G, k, none⟩ = false := free_blk HG4.out k
          clear hB4 ht4 hb4
          go_wp2_with fail
          go_roundw
          case rel =>
            have hm : Mods [G] w4 (w4.setCell ⟨G, k, none⟩ (.pointer (some ⟨b, 0, none⟩))) := (Mods.refl [G] w4).setCell (p := ⟨G, k, none⟩) (.inl (by simp)) _
            have hs : (w4.setCell ⟨G, k, none⟩ (.pointer (some ⟨b, 0, none⟩))).heap.size = w4.heap.size := by simp
            have g1 : Hid ((w4.setCell ⟨G, k, none⟩ (.pointer (some ⟨b, 0, none⟩))).heap[G]? = some (.cells (trees (fun j => if j = k then b else B j) (k + 1)) 56 (0, 0))) := by
              refine Lib.hid ?_
              rw [← trees_set B k b hlt]
              exact blk_set HG4.out k _
            have g2 : Hid (∀ j, j < k + 1 → IsTree (w4.setCell ⟨G, k, none⟩ (.pointer (some ⟨b, 0, none⟩))) (if j = k then b else B j) (w4.setCell ⟨G, k, none⟩ (.pointer (some ⟨b, 0, none⟩))).heap.size (ls j) (if j = k then o4 else os j) ∧ (if j = k then b else B j) ≠ G) := by
              refine Lib.hid (fun j hj => ?_)
              rw [hs]
              by_cases hjk : j = k
              · subst hjk
                simp only [if_true]
                exact ⟨HN4.out.store hm HG4.out (trees_ptr B j) HBG.out, HBG.out⟩
              · simp only [if_neg hjk]
                have h := HT4.out j (by omega)
                exact ⟨h.1.store hm HG4.out (trees_ptr B k) h.2, h.2⟩
            have g3 := Lib.hid (HB4.out.setCell (p := ⟨G, k, none⟩) hz2 (.pointer (some ⟨b, 0, none⟩)))
            first | exact ⟨k + 1, fun j => if j = k then b else B j, fun j => if j = k then o4 else os j, by omega, by go_num, g1, g2, g3⟩ | ((repeat apply Exists.intro); exact ⟨⟨k + 1, fun j => if j = k then b else B j, fun j => if j = k then o4 else os j, by omega, by go_num, g1, g2, g3⟩, rfl⟩)
          case measure => simp [intOf]; omega
        · obtain rfl : k = 5 := by omega
          go_wp2_with fail
          go_ret2
          exact ⟨HBq.out, G, rfl, hz2, Nat.le_refl _, blk_lt HG.out, B, os, HG.out, fun k hk => (HT.out k hk).1⟩
end Go.Proofs.YtfeloicmkcfinaaDoor
