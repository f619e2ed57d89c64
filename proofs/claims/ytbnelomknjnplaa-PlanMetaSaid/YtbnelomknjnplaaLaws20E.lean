/- The law PlanEmpty. -/
import Derived.Test.YtbnelomknjnplaaPlnD
namespace Go.Proofs.Ytbnelomknjnplaa
open Go.RowKit
open Go.Proofs.YtbnelomknjnplaaW.PrintWords

theorem refGood_any' (W H : Int) (A : Option Addr) (n c : Nat) (w : World) : Calls Try.prog 7 #[.agg #[.int .i64 W, .int .i64 H, .slice A n c]] w fun e w' => e = .returned (.bool (goodI W H n)) ∧ Below w.heap.size w w' := by
  go_enter Try.func7, Try.ntmps7
  go_wp2_with fail
  all_goals
    go_ret
    refine ⟨?_, (Below.refl _ _).alloc (Nat.le_refl _) _⟩
    unfold goodI
    first
      | exact congrArg (fun b => Ending.returned (Value.bool b)) (decide_eq_false (by omega)).symm
      | exact congrArg (fun b => Ending.returned (Value.bool b)) (good_last (by omega) (by omega) (by omega) (by omega))
theorem good_some {W H : Int} {A : Option Addr} {n : Nat} {ps : List Int} {w : World} (h : goodI W H n = true) (HR : ReadsInt w .u32 A n ps) : 0 < n ∧ ∃ ad, A = some ad := by
  unfold goodI at h
  obtain ⟨hW1, hW2, hH1, hH2, hnn⟩ := of_decide_eq_true h
  have : 0 < W * H := Int.mul_pos (by omega) (by omega)
  have hn : 0 < n := by omega
  obtain ⟨ad, h, _⟩ := HR.2.2 hn
  exact ⟨hn, ad, h⟩
theorem valid_any (W H : Int) (A : Option Addr) (n c : Nat) (ps : List Int) (S : Option Addr) (sn sc : Nat) (ca : Int) (T : Option Addr) (tn tc : Nat) (w : World) (HR : ReadsInt w .u32 A n ps) (hps : ∀ x ∈ ps, 0 ≤ x ∧ x < 4294967296) (hn : n ≤ 100000)
    (hsn : sn ≤ 1) (HS : ReadsInt w .i64 S sn (List.replicate sn 2)) (gd : Bool) (hg : goodI W H n = gd) :
    Calls Try.prog 8 #[.agg #[.int .i64 W, .int .i64 H, .slice A n c], .agg (planC S sn sc ca 0 T tn tc)] w fun e w' => e = .returned (.bool (gd && (decide (0 ≤ ca) && decide (ca ≤ 11)))) ∧ Below w.heap.size w w' := by
  cases gd with
  | true =>
    obtain ⟨hn0, ad, rfl⟩ := good_some hg HR
    rw [Bool.true_and]
    exact valid_good W H ad n c ps S sn sc ca T tn tc w HR hps hn0 hn hg hsn HS
  | false =>
    rw [Bool.false_and]
    exact valid_bad W H A n c S sn sc _ ca 0 T tn tc w HS (by rw [hg]; rfl)
theorem alloc_box {w : World} {g : Nat} {o : Obj} (h : w.heap[g]? = some o) (o' : Obj) : (w.alloc o').heap[g]? = some o := (((Below.refl _ w).alloc (Nat.le_refl _) o').block _ (blk_lt h)).trans h
theorem reads_two {W : World} {e : TypeId} {g : Nat} {p q : Int} (h : W.heap[g]? = some (.cells #[.int .i64 p, .int .i64 q] e (0, 0))) : ReadsInt W .i64 (some ⟨g, 0, none⟩) 2 [p, q] := by
  refine ⟨rfl, by decide, fun _ => ⟨_, rfl, fun j hj => ?_⟩⟩
  have : j = 0 ∨ j = 1 := by omega
  rcases this with rfl | rfl
  · exact cell_blk h 0
  · have := cell_blk h 1
    simpa [Addr.add] using this

set_option maxRecDepth 100000 in
set_option maxHeartbeats 8000000 in
theorem law_PlanEmpty (W H ca : Int) (A : Option Addr) (n c : Nat) (ps : List Int) (w : World) (HR : ReadsInt w .u32 A n ps) (hps : ∀ x ∈ ps, 0 ≤ x ∧ x < 4294967296) :
    Calls Try.prog 3 #[.agg #[.int .i64 W, .int .i64 H, .slice A n c], .int .i64 ca] w fun e w' => e = .returned (.bool true) ∧ Below w.heap.size w w' := by
  have hnew := alloc_new w #[.int .i64 W, .int .i64 H, .slice A n c] 24
  have hb0 := (Below.refl _ w).alloc (Nat.le_refl _) (.cells #[.int .i64 W, .int .i64 H, .slice A n c] 24)
  have HR1 := Lib.hid (HR.below (show Below w.heap.size w _ from hb0))
  obtain ⟨X, hX⟩ : ∃ X, w.heap.size = X := ⟨_, rfl⟩
  rw [hX] at hnew hb0
  have HN := Lib.hid hnew; have HB := Lib.hid hb0; have HX := Lib.hid hX
  have HPS := Lib.hid hps
  obtain ⟨gd, hgd⟩ : ∃ gd, goodI W H n = gd := ⟨_, rfl⟩
  have HG := Lib.hid hgd
  clear HR hps hnew hb0 hgd
  by_cases hbig : 2000 < n
  · have z1 : decide ((2000 : Int) < (n : Int)) = true := by simp; omega
    go_enter Try.func3, Try.ntmps3
    go_wp2_with fail
    refine (answers20 _).mono ?_
    rintro e w6 ⟨rfl, hB6⟩
    go_wp2_with fail
    go_ret
    exact ⟨rfl, by rw [hX]; exact below_then HB.out (by simp; omega) hB6⟩
  have z1 : decide ((2000 : Int) < (n : Int)) = false := by simp; omega
  have hn : n ≤ 100000 := by omega
  obtain ⟨c1, hc1⟩ : ∃ c1, decide (0 ≤ ca) = c1 := ⟨_, rfl⟩
  obtain ⟨c3, hc3⟩ : ∃ c3, decide (ca ≤ 11) = c3 := ⟨_, rfl⟩
  have HC1 := Lib.hid hc1; have HC3 := Lib.hid hc3
  obtain ⟨i0, i1, i2, _, _, _⟩ := box3 HN.out
  cases gd <;> cases c1 <;> cases c3
  all_goals
    go_enter Try.func3, Try.ntmps3
    go_wp2_with fail
    generalize w.alloc (.cells #[.int .i64 W, .int .i64 H, .slice A n c] 24) = w1 at *
    have hX1 : X ≤ w1.heap.size := by have := HB.out.size; omega
    refine (refGood_any' W H A n c w1).mono ?_
    rintro e w2 ⟨rfl, hB2⟩
    rw [HG.out]
    have HR2 := Lib.hid (HR1.out.below hB2)
    have HN2 := Lib.hid ((Mods.of_below hB2 []).blk HN.out (by simp))
    have HB2 := Lib.hid (below_then HB.out hX1 hB2)
    have hX2 : X ≤ w2.heap.size := by have := HB2.out.size; omega
    clear hB2 i0 i1 i2
    go_wp2_with fail
    refine (answers20 w2).mono ?_
    rintro e w3 ⟨rfl, hB3⟩
    have HR3 := Lib.hid (HR2.out.below hB3)
    have HN3 := Lib.hid ((Mods.of_below hB3 []).blk HN2.out (by simp))
    have HB3 := Lib.hid (below_then HB2.out hX2 hB3)
    have hX3 : X ≤ w3.heap.size := by have := HB3.out.size; omega
    clear hB3
    obtain ⟨i0, i1, i2, _, _, _⟩ := box3 HN3.out
    go_wp2_with fail
    refine (valid_any W H A n c ps none 0 0 0 none 0 0 w3 HR3.out HPS.out hn (by omega) (nil_reads _ _) _ HG.out).mono ?_
    rintro e w4 ⟨rfl, hB4⟩
    have HR4 := Lib.hid (HR3.out.below hB4)
    have HN4 := Lib.hid ((Mods.of_below hB4 []).blk HN3.out (by simp))
    have HB4 := Lib.hid (below_then HB3.out hX3 hB4)
    have hX4 : X ≤ w4.heap.size := by have := HB4.out.size; omega
    clear hB4 i0 i1 i2
    obtain ⟨i0, i1, i2, _, _, _⟩ := box3 HN4.out
    have hs4 : ReadsInt (w4.alloc (.cells #[.int .i64 2] 3)) .i64 (some ⟨w4.heap.size, 0, none⟩) 1 (List.replicate 1 2) := reads_oneI (alloc_new _ _ _)
    have hb4 := (Below.refl _ w4).alloc (Nat.le_refl _) (.cells #[.int .i64 2] 3)
    have HS4 := Lib.hid hs4
    have HR5 := Lib.hid (HR4.out.below hb4)
    have HN5 := Lib.hid (alloc_box HN4.out (.cells #[.int .i64 2] 3))
    have HB5 := Lib.hid (HB4.out.alloc hX4 (.cells #[.int .i64 2] 3))
    clear hs4 hb4
    go_wp2_with fail
    generalize hw5 : w4.alloc (.cells #[.int .i64 2] 3) = w5 at *
    have hX5 : X ≤ w5.heap.size := by have := HB5.out.size; omega
    clear hw5
    refine (valid_any W H A n c ps (some ⟨w4.heap.size, 0, none⟩) 1 1 0 none 0 0 w5 HR5.out HPS.out hn (by omega) HS4.out _ HG.out).mono ?_
    rintro e w6 ⟨rfl, hB6⟩
    have HR6 := Lib.hid (HR5.out.below hB6)
    have HN6 := Lib.hid ((Mods.of_below hB6 []).blk HN5.out (by simp))
    have HB6 := Lib.hid (below_then HB5.out hX5 hB6)
    have hX6 : X ≤ w6.heap.size := by have := HB6.out.size; omega
    clear hB6 i0 i1 i2
    obtain ⟨i0, i1, i2, _, _, _⟩ := box3 HN6.out
    go_wp2_with fail
    refine (valid_any W H A n c ps none 0 0 ca none 0 0 w6 HR6.out HPS.out hn (by omega) (nil_reads _ _) _ HG.out).mono ?_
    rw [HC1.out, HC3.out]
    rintro e w7 ⟨rfl, hB7⟩
    have HN7 := Lib.hid ((Mods.of_below hB7 []).blk HN6.out (by simp))
    have HB7 := Lib.hid (below_then HB6.out hX6 hB7)
    have hX7 : X ≤ w7.heap.size := by have := HB7.out.size; omega
    clear hB7 i0 i1 i2
    obtain ⟨i0, i1, i2, _, _, _⟩ := box3 HN7.out
    have HS7 := Lib.hid (show ReadsInt (w7.alloc (.cells #[.int .i64 2, .int .i64 2] 3)) .i64 (some ⟨w7.heap.size, 0, none⟩) 2 [2, 2] from reads_two (alloc_new _ _ _))
    have HN8 := Lib.hid (alloc_box HN7.out (.cells #[.int .i64 2, .int .i64 2] 3))
    have HB8 := Lib.hid (HB7.out.alloc hX7 (.cells #[.int .i64 2, .int .i64 2] 3))
    go_wp2_with fail
    generalize hw8 : w7.alloc (.cells #[.int .i64 2, .int .i64 2] 3) = w8 at *
    have hX8 : X ≤ w8.heap.size := by have := HB8.out.size; omega
    clear hw8
    refine (valid_bad W H A n c (some ⟨w7.heap.size, 0, none⟩) 2 2 [2, 2] 0 0 none 0 0 w8 HS7.out (by rw [show stk [2, 2] 0 = false from by decide, Bool.and_false])).mono ?_
    rintro e w9 ⟨rfl, hB9⟩
    have HN9 := Lib.hid ((Mods.of_below hB9 []).blk HN8.out (by simp))
    have HB9 := Lib.hid (below_then HB8.out hX8 hB9)
    have hX9 : X ≤ w9.heap.size := by have := HB9.out.size; omega
    clear hB9 i0 i1 i2
    obtain ⟨i0, i1, i2, _, _, _⟩ := box3 HN9.out
    have HS9 := Lib.hid (show ReadsInt (w9.alloc (.cells #[.int .i64 4] 3)) .i64 (some ⟨w9.heap.size, 0, none⟩) 1 [4] from reads_oneI (alloc_new _ _ _))
    have HB10 := Lib.hid (HB9.out.alloc hX9 (.cells #[.int .i64 4] 3))
    go_wp2_with fail
    generalize hw10 : w9.alloc (.cells #[.int .i64 4] 3) = w10 at *
    have hX10 : X ≤ w10.heap.size := by have := HB10.out.size; omega
    clear hw10
    refine (valid_bad W H A n c (some ⟨w9.heap.size, 0, none⟩) 1 1 [4] 0 0 none 0 0 w10 HS9.out (by rw [show stk [4] 0 = false from by decide, Bool.and_false])).mono ?_
    rintro e w11 ⟨rfl, hB11⟩
    have HB11 := Lib.hid (below_then HB10.out hX10 hB11)
    clear hB11
    go_wp2_with fail
    go_ret
    exact ⟨rfl, by have := HX.out; rw [this]; exact HB11.out⟩
end Go.Proofs.Ytbnelomknjnplaa
