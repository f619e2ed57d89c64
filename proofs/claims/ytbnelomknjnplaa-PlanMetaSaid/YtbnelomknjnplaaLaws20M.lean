/- The law PlanMeta. -/
import Derived.Test.YtbnelomknjnplaaPlnN
import Derived.Test.YtbnelomknjnplaaLaws20E
namespace Go.Proofs.Ytbnelomknjnplaa
open Go.RowKit
open Go.Proofs.YtbnelomknjnplaaW.PrintWords

theorem validM_any (W H : Int) (A : Option Addr) (n c : Nat) (ps : List Int) (mb : Int) (T : Option Addr) (tn tc : Nat) (ls : List Int) (w : World) (HR : ReadsInt w .u32 A n ps) (hps : ∀ x ∈ ps, 0 ≤ x ∧ x < 4294967296) (hn : n ≤ 100000)
    (HT : ReadsInt w .i64 T tn ls) (gd : Bool) (hg : goodI W H n = gd) :
    Calls Try.prog 8 #[.agg #[.int .i64 W, .int .i64 H, .slice A n c], .agg (planC none 0 0 0 mb T tn tc)] w fun e w' => e = .returned (.bool (gd && metaR W H mb tn ls)) ∧ Below w.heap.size w w' := by
  cases gd with
  | true =>
    obtain ⟨hn0, ad, rfl⟩ := good_some hg HR
    rw [Bool.true_and]
    by_cases hm : mb = 0
    · subst hm
      have hr : metaR W H 0 tn ls = true := by unfold metaR; rw [decide_eq_true rfl, Bool.true_or]
      rw [hr]
      exact valid_good W H ad n c ps none 0 0 0 T tn tc w HR hps hn0 hn hg (by omega) (nil_reads _ _)
    · have hg2 := hg
      unfold goodI at hg2
      obtain ⟨hW1, hW2, hH1, hH2, hnn⟩ := of_decide_eq_true hg2
      exact valid_some W H ad n c ps mb T tn tc ls w HR hps hn0 hn hg ⟨hW1, hW2⟩ ⟨hH1, hH2⟩ hm HT
  | false =>
    rw [Bool.false_and]
    exact valid_bad W H A n c none 0 0 [] 0 mb T tn tc w (nil_reads _ _) (by rw [hg]; rfl)

set_option maxRecDepth 100000 in
set_option maxHeartbeats 8000000 in
theorem law_PlanMeta (W H mb : Int) (A T : Option Addr) (n c tn tc : Nat) (ps ls : List Int) (w : World) (HR : ReadsInt w .u32 A n ps) (hps : ∀ x ∈ ps, 0 ≤ x ∧ x < 4294967296) (HT : ReadsInt w .i64 T tn ls) :
    Calls Try.prog 5 #[.agg #[.int .i64 W, .int .i64 H, .slice A n c], .int .i64 mb, .slice T tn tc] w fun e w' => e = .returned (.bool true) ∧ Below w.heap.size w w' := by
  have hnew := alloc_new w #[.int .i64 W, .int .i64 H, .slice A n c] 24
  have hb0 := (Below.refl _ w).alloc (Nat.le_refl _) (.cells #[.int .i64 W, .int .i64 H, .slice A n c] 24)
  have HR1 := Lib.hid (HR.below (show Below w.heap.size w _ from hb0))
  have HT1 := Lib.hid (HT.below (show Below w.heap.size w _ from hb0))
  obtain ⟨X, hX⟩ : ∃ X, w.heap.size = X := ⟨_, rfl⟩
  rw [hX] at hnew hb0
  have HN := Lib.hid hnew; have HB := Lib.hid hb0; have HX := Lib.hid hX
  have HPS := Lib.hid hps
  obtain ⟨gd, hgd⟩ : ∃ gd, goodI W H n = gd := ⟨_, rfl⟩
  have HG := Lib.hid hgd
  clear HR HT hps hnew hb0 hgd
  by_cases hbig : 1000 < n ∨ (¬ 1000 < n ∧ 1500 < tn)
  · rcases hbig with h1 | ⟨h1, h2⟩
    · have z1 : decide ((1000 : Int) < (n : Int)) = true := by simp; omega
      go_enter Try.func5, Try.ntmps5
      go_wp2_with fail
      refine (answers20 _).mono ?_
      rintro e w6 ⟨rfl, hB6⟩
      go_wp2_with fail
      go_ret
      exact ⟨rfl, by rw [hX]; exact below_then HB.out (by simp; omega) hB6⟩
    · have z1 : decide ((1000 : Int) < (n : Int)) = false := by simp; omega
      have z2 : decide ((1500 : Int) < (tn : Int)) = true := by simp; omega
      go_enter Try.func5, Try.ntmps5
      go_wp2_with fail
      refine (answers20 _).mono ?_
      rintro e w6 ⟨rfl, hB6⟩
      go_wp2_with fail
      go_ret
      exact ⟨rfl, by rw [hX]; exact below_then HB.out (by simp; omega) hB6⟩
  have z1 : decide ((1000 : Int) < (n : Int)) = false := by simp; omega
  have z2 : decide ((1500 : Int) < (tn : Int)) = false := by simp; omega
  have hn : n ≤ 100000 := by omega
  obtain ⟨i0, i1, i2, _, _, _⟩ := box3 HN.out
  obtain ⟨mr, hmr⟩ : ∃ mr, metaR W H mb tn ls = mr := ⟨_, rfl⟩
  have HMR := Lib.hid hmr
  clear hbig hmr
  cases gd <;> cases mr
  all_goals
    go_enter Try.func5, Try.ntmps5
    go_wp2_with fail
    generalize w.alloc (.cells #[.int .i64 W, .int .i64 H, .slice A n c] 24) = w1 at *
    have hX1 : X ≤ w1.heap.size := by have := HB.out.size; omega
    refine (refGood_any' W H A n c w1).mono ?_
    rintro e w2 ⟨rfl, hB2⟩
    rw [HG.out]
    have HR2 := Lib.hid (HR1.out.below hB2)
    have HT2 := Lib.hid (HT1.out.below hB2)
    have HN2 := Lib.hid ((Mods.of_below hB2 []).blk HN.out (by simp))
    have HB2 := Lib.hid (below_then HB.out hX1 hB2)
    have hX2 : X ≤ w2.heap.size := by have := HB2.out.size; omega
    clear hB2 i0 i1 i2
    obtain ⟨i0, i1, i2, _, _, _⟩ := box3 HN2.out
    go_wp2_with fail
    first
      | (have hg2 := HG.out
         unfold goodI at hg2
         obtain ⟨hW1, hW2, hH1, hH2, hnn⟩ := of_decide_eq_true hg2
         clear hg2
         refine (refMeta_any W H A n c mb T tn tc ls w2 HT2.out ⟨hW1, hW2⟩ ⟨hH1, hH2⟩).mono ?_
         rw [HMR.out]
         clear hnn hW1 hW2 hH1 hH2
         rintro e w3 ⟨rfl, hB3⟩
         have HR3 := Lib.hid (HR2.out.below hB3)
         have HT3 := Lib.hid (HT2.out.below hB3)
         have HN3 := Lib.hid ((Mods.of_below hB3 []).blk HN2.out (by simp))
         have HB3 := Lib.hid (below_then HB2.out hX2 hB3)
         have hX3 : X ≤ w3.heap.size := by have := HB3.out.size; omega
         clear hB3 i0 i1 i2
         go_wp2_with fail)
      | (obtain ⟨w3, hw3⟩ : ∃ w3, w2 = w3 := ⟨_, rfl⟩
         subst hw3
         have HR3 := HR2
         have HT3 := HT2
         have HN3 := HN2
         have HB3 := HB2
         have hX3 := hX2)
    refine (answers20 _).mono ?_
    rintro e w4 ⟨rfl, hB4⟩
    have HR4 := Lib.hid (HR3.out.below hB4)
    have HT4 := Lib.hid (HT3.out.below hB4)
    have HN4 := Lib.hid ((Mods.of_below hB4 []).blk HN3.out (by simp))
    have HB4 := Lib.hid (below_then HB3.out hX3 hB4)
    have hX4 : X ≤ w4.heap.size := by have := HB4.out.size; omega
    clear hB4
    obtain ⟨j0, j1, j2, _, _, _⟩ := box3 HN4.out
    go_wp2_with fail
    refine (validM_any W H A n c ps mb T tn tc ls w4 HR4.out HPS.out hn HT4.out _ HG.out).mono ?_
    rw [HMR.out]
    rintro e w5 ⟨rfl, hB5⟩
    have HB5 := Lib.hid (below_then HB4.out hX4 hB5)
    clear hB5
    go_wp2_with fail
    go_ret
    exact ⟨rfl, by have := HX.out; rw [this]; exact HB5.out⟩
end Go.Proofs.Ytbnelomknjnplaa
