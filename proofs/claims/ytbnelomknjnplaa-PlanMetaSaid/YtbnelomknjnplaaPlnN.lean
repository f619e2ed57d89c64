/- plan.Valid of groups; the reference's Meta. -/
import Derived.Test.YtbnelomknjnplaaPlnM
namespace Go.Proofs.Ytbnelomknjnplaa
open Go.RowKit
open Go.Proofs.YtbnelomknjnplaaW.PrintWords

set_option maxHeartbeats 2000000 in
theorem valid_some (W H : Int) (ad : Addr) (n c : Nat) (ps : List Int) (mb : Int) (T : Option Addr) (tn tc : Nat) (ls : List Int) (w : World) (HR : ReadsInt w .u32 (some ad) n ps) (hps : ∀ x ∈ ps, 0 ≤ x ∧ x < 4294967296) (hn0 : 0 < n) (hn : n ≤ 100000) (hg : goodI W H n = true)
    (hW : 1 ≤ W ∧ W ≤ 16384) (hH : 1 ≤ H ∧ H ≤ 16384) (hmb : mb ≠ 0) (HT : ReadsInt w .i64 T tn ls) :
    Calls Try.prog 8 #[.agg #[.int .i64 W, .int .i64 H, .slice (some ad) n c], .agg (planC none 0 0 0 mb T tn tc)] w fun e w' => e = .returned (.bool (metaR W H mb tn ls)) ∧ Below w.heap.size w w' := by
  obtain ⟨h1, h2, hb, hs⟩ := boxes2 w #[.int .i64 W, .int .i64 H, .slice (some ad) n c] (planC none 0 0 0 mb T tn tc) 24 32
  have HB := Lib.hid hb
  have HT0 := Lib.hid (HT.below hb); have HR0 := Lib.hid (HR.below hb)
  have HG := Lib.hid hg; have HPS := Lib.hid hps
  have H2 := Lib.hid h2
  clear h1 h2 hb HT hg HR hps
  go_enter Try.func8, Try.ntmps8
  go_wp2_with fail
  generalize (w.alloc (.cells #[.int .i64 W, .int .i64 H, .slice (some ad) n c] 24)).alloc (.cells (planC none 0 0 0 mb T tn tc) 32) = w0 at *
  refine (apply_good W H ad n c ps none 0 0 0 mb T tn tc w0 HR0.out HPS.out hn0 hn HG.out (by omega) ⟨rfl, by simp, fun h => absurd h (Nat.lt_irrefl 0)⟩).mono ?_
  rintro e w1 ⟨hB, A2, c2, rfl, hr⟩
  have hz := hB.size
  have HX2 := Lib.hid ((Mods.of_below hB []).blk H2.out (by simp))
  have HBB := Lib.hid (below_then HB.out (by omega) hB)
  have hla := blk_lt HX2.out
  have hpa : ∀ o, (w1.alloc o).heap[w.heap.size + 1]? = some (.cells (planC none 0 0 0 mb T tn tc) 32 (0, 0)) := fun o => (((Below.refl _ w1).alloc (Nat.le_refl _) o).block _ hla).trans HX2.out
  have a0 := fun o => (box9 (hpa o)).1
  have a1 := fun o => (box9 (hpa o)).2.1
  have a2 := fun o => (box9 (hpa o)).2.2.1
  have a3 := fun o => (box9 (hpa o)).2.2.2.1
  have a4 := fun o => (box9 (hpa o)).2.2.2.2.1
  have a5 := fun o => (box9 (hpa o)).2.2.2.2.2.1
  have a6 := fun o => (box9 (hpa o)).2.2.2.2.2.2.1
  have a7 := fun o => (box9 (hpa o)).2.2.2.2.2.2.2.1
  have a8 := fun o => (box9 (hpa o)).2.2.2.2.2.2.2.2
  have HPA := Lib.hid (hpa (.cells #[.int .i64 W, .int .i64 H, .slice A2 n c2] 24))
  have HIA := Lib.hid (alloc_new w1 #[.int .i64 W, .int .i64 H, .slice A2 n c2] 24)
  have HBA := Lib.hid (HBB.out.alloc (by omega) (.cells #[.int .i64 W, .int .i64 H, .slice A2 n c2] 24))
  have HTA := Lib.hid ((HT0.out.below hB).below ((Below.refl _ w1).alloc (Nat.le_refl _) (.cells #[.int .i64 W, .int .i64 H, .slice A2 n c2] 24)))
  clear hB hr hpa
  go_wp2_with fail
  clear a0 a1 a2 a3 a4 a5 a6 a7 a8
  refine (meta_some W H A2 n c2 none 0 0 0 mb T tn tc ls _ HTA.out hW hH hmb).mono ?_
  rintro e w2 ⟨rfl, hB⟩
  have hz2 := hB.size
  have HI2 := Lib.hid ((Mods.of_below hB []).blk HIA.out (by simp))
  have HP2 := Lib.hid ((Mods.of_below hB []).blk HPA.out (by simp))
  have HB2 := Lib.hid (below_then HBA.out (by simp at hz2 ⊢; omega) hB)
  clear hB
  obtain ⟨_, _, i2, _, _, _⟩ := box3 HI2.out
  obtain ⟨_, _, _, _, _, _, _, _, b8⟩ := box9 HP2.out
  cases hmr : metaR W H mb tn ls with
  | true =>
    have HMR := Lib.hid hmr
    clear hmr
    go_wp2_with fail
    refine (fits_none A2 n c2 w2).mono ?_
    rintro e w3 ⟨rfl, rfl⟩
    go_wp2_with fail
    go_ret
    exact ⟨by rw [HMR.out]; rfl, HB2.out⟩
  | false =>
    have HMR := Lib.hid hmr
    clear hmr
    go_wp2_with fail
    go_ret
    exact ⟨by rw [HMR.out]; rfl, HB2.out⟩

theorem refMany_any (W H : Int) (A : Option Addr) (n c b : Nat) (w : World) (hW : 1 ≤ W ∧ W ≤ 16384) (hH : 1 ≤ H ∧ H ≤ 16384) (hb2 : 2 ≤ b) (hb9 : b ≤ 9) : Calls Try.prog 17 #[.agg #[.int .i64 W, .int .i64 H, .slice A n c], .int .i64 b] w fun e w' => e = .returned (.int .i64 (blocksI W b * blocksI H b)) ∧ Below w.heap.size w w' := by
  have hnew := alloc_new w #[.int .i64 W, .int .i64 H, .slice A n c] 24
  have hb0 := (Below.refl _ w).alloc (Nat.le_refl _) (.cells #[.int .i64 W, .int .i64 H, .slice A n c] 24)
  have HBq := Lib.hid (show ∀ q, Below w.heap.size w ((w.alloc (.cells #[.int .i64 W, .int .i64 H, .slice A n c] 24)).drewN q) from fun q => below_then hb0 (by simp) ⟨rfl, rfl, rfl, Nat.le_of_eq (by rw [heap_drewN]), fun _ _ => by rw [heap_drewN]⟩)
  obtain ⟨i0, i1, i2, _, _, _⟩ := box3 hnew
  have hpW := pow_step W b hW.1 hb2 hb9
  have hpH := pow_step H b hH.1 hb2 hb9
  have hpq : 0 ≤ blocksI W b * blocksI H b ∧ blocksI W b * blocksI H b ≤ 16384 * 16384 := ⟨Int.mul_nonneg hpW.1 hpH.1, Int.mul_le_mul (by omega) (by omega) hpH.1 (by omega)⟩
  have hwr : IntKind.i64.wrap (blocksI W b * blocksI H b) = blocksI W b * blocksI H b := IntWalk.i64_in _ (by omega)
  clear hnew hb0 hpq
  go_enter Try.func17, Try.ntmps17
  go_wp2_with fail
  generalize w.alloc (.cells #[.int .i64 W, .int .i64 H, .slice A n c] 24) = w1 at *
  go_quiet ((go_at_call 29; exact Calls.quiet_of_same ((refBlocks9 _ b _ (by omega) (by omega) hb9).mono fun _ _ h => ⟨h.1, h.2.symm⟩)))
  go_wp2_with fail
  go_ret
  exact ⟨by first | rfl | (rw [hwr]; rfl), HBq.out _⟩
set_option maxHeartbeats 2000000 in
theorem refMeta_any (W H : Int) (A : Option Addr) (n c : Nat) (mb : Int) (T : Option Addr) (tn tc : Nat) (ls : List Int) (w : World) (HT : ReadsInt w .i64 T tn ls) (hW : 1 ≤ W ∧ W ≤ 16384) (hH : 1 ≤ H ∧ H ≤ 16384) :
    Calls Try.prog 10 #[.agg #[.int .i64 W, .int .i64 H, .slice A n c], .int .i64 mb, .slice T tn tc] w fun e w' => e = .returned (.bool (metaR W H mb tn ls)) ∧ Below w.heap.size w w' := by
  have hnew := alloc_new w #[.int .i64 W, .int .i64 H, .slice A n c] 24
  have hb0 := (Below.refl _ w).alloc (Nat.le_refl _) (.cells #[.int .i64 W, .int .i64 H, .slice A n c] 24)
  have HB0 := Lib.hid hb0; have HN := Lib.hid hnew
  have HT0 := Lib.hid (HT.below hb0)
  have hmx := HT.2.1
  clear hnew hb0 HT
  by_cases hm0 : mb = 0
  · subst hm0
    have hr : metaR W H 0 tn ls = true := by unfold metaR; rw [decide_eq_true rfl, Bool.true_or]
    rw [hr]
    go_enter Try.func10, Try.ntmps10
    go_wp2_with fail
    go_ret
    exact ⟨rfl, HB0.out⟩
  have hd0 : (mb == 0) = false := beq_eq_false_iff_ne.2 hm0
  have hmr : metaR W H mb tn ls = ((decide (2 ≤ mb) && decide (mb ≤ 9)) && (decide ((tn : Int) = blocksI W mb.toNat * blocksI H mb.toNat) && metaP ls)) := by unfold metaR; rw [decide_eq_false hm0, Bool.false_or]
  by_cases h2 : mb < 2
  · have d1 : decide (mb < 2) = true := decide_eq_true h2
    have hr : metaR W H mb tn ls = false := by rw [hmr, decide_eq_false (show ¬ 2 ≤ mb by omega)]; rfl
    rw [hr]
    clear hmr hr
    go_enter Try.func10, Try.ntmps10
    go_wp2_with fail
    go_ret
    exact ⟨rfl, HB0.out⟩
  have d1 : decide (mb < 2) = false := decide_eq_false h2
  by_cases h9 : 9 < mb
  · have d2 : decide (9 < mb) = true := decide_eq_true h9
    have hr : metaR W H mb tn ls = false := by rw [hmr, decide_eq_false (show ¬ mb ≤ 9 by omega), Bool.and_false]; rfl
    rw [hr]
    clear hmr hr
    go_enter Try.func10, Try.ntmps10
    go_wp2_with fail
    go_ret
    exact ⟨rfl, HB0.out⟩
  have d2 : decide (9 < mb) = false := decide_eq_false h9
  obtain ⟨b, rfl⟩ : ∃ b : Nat, mb = b := ⟨mb.toNat, by omega⟩
  have hb2 : 2 ≤ b := by omega
  have hb9 : b ≤ 9 := by omega
  rw [decide_eq_true (show (2 : Int) ≤ b by omega), decide_eq_true (show (b : Int) ≤ 9 by omega), Int.toNat_natCast] at hmr
  simp only [Bool.true_and] at hmr
  obtain ⟨i0, i1, i2, _, _, _⟩ := box3 HN.out
  have HMR := Lib.hid hmr
  clear hmr
  obtain ⟨r, hrr⟩ : ∃ r, blocksI W b * blocksI H b = r := ⟨_, rfl⟩
  have HRR := Lib.hid hrr
  clear hrr
  go_enter Try.func10, Try.ntmps10
  go_wp2_with fail
  generalize w.alloc (.cells #[.int .i64 W, .int .i64 H, .slice A n c] 24) = w1 at *
  have hs1 := HB0.out.size
  refine (refMany_any W H A n c b w1 hW hH hb2 hb9).mono ?_
  rw [HRR.out]
  rintro e w2 ⟨rfl, hB⟩
  have HB2 := Lib.hid (below_then HB0.out hs1 hB)
  have HT2 := Lib.hid (HT0.out.below hB)
  have HMR2 := Lib.hid (show metaR W H b tn ls = (decide ((tn : Int) = r) && metaP ls) from by rw [HMR.out, HRR.out])
  clear hB i0 i1 i2
  by_cases hln : (tn : Int) = r
  · have hne : ((tn : Int) == r) = true := beq_iff_eq.2 hln
    have HR3 := Lib.hid (show metaR W H b tn ls = metaP ls from by rw [HMR2.out, decide_eq_true hln, Bool.true_and])
    go_wp2_with fail
    go_loopw [7] (fun i wr => ∃ k : Nat, k ≤ tn ∧ i = .int .i64 k ∧ wr = w2 ∧ Hid (metaP (ls.take k) = true)) (fun i _ => tn - (intOf i).toNat)
    case atStart => exact ⟨0, Nat.zero_le _, rfl, rfl, Lib.hid rfl⟩
    case round =>
      obtain ⟨k, hk, rfl, rfl, HM⟩ := hrel
      by_cases hlt : k < tn
      · obtain ⟨ad, hA, hcell⟩ := HT2.out.2.2 (by omega)
        subst hA
        have c1 := hcell k hlt
        have hst := metaP_take (ls := ls) (k := k) (by rw [HT2.out.1]; exact hlt)
        rw [HM.out, Bool.true_and] at hst
        obtain ⟨x, hx⟩ : ∃ x, ls.getD k 0 = x := ⟨_, rfl⟩
        rw [hx] at c1 hst
        have HST := Lib.hid hst
        have k1 : (k : Int) < (tn : Int) := by omega
        have k2 : (0 : Int) ≤ (k : Int) := by omega
        clear hcell hx hst
        by_cases hx0 : x < 0
        · have e1 : decide (x < 0) = true := decide_eq_true hx0
          have HF := Lib.hid (metaP_cut (HST.out.trans (by rw [decide_eq_false (show ¬ 0 ≤ x by omega), Bool.false_and])))
          go_wp2_with fail
          go_ret
          exact ⟨by rw [HR3.out, HF.out]; rfl, HB2.out⟩
        have e1 : decide (x < 0) = false := decide_eq_false hx0
        by_cases hx6 : 63 < x
        · have e2 : decide (63 < x) = true := decide_eq_true hx6
          have HF := Lib.hid (metaP_cut (HST.out.trans (by rw [decide_eq_false (show ¬ x < 64 by omega), Bool.and_false])))
          go_wp2_with fail
          go_ret
          exact ⟨by rw [HR3.out, HF.out]; rfl, HB2.out⟩
        have e2 : decide (63 < x) = false := decide_eq_false hx6
        have HST2 := Lib.hid (HST.out.trans (by rw [decide_eq_true (show 0 ≤ x by omega), decide_eq_true (show x < 64 by omega), Bool.true_and]))
        go_wp2_with fail
        go_roundw
        case rel => exact ⟨k + 1, by omega, by go_num, by first | rfl | trivial, HST2⟩
        case measure => simp [intOf]; omega
      · obtain rfl : k = tn := by omega
        have HTT := Lib.hid (show metaP ls = true from by have := HM.out; rwa [List.take_of_length_le (by rw [HT2.out.1]; exact Nat.le_refl _)] at this)
        have k3 : decide ((k : Int) < (k : Int)) = false := by simp
        go_wp2_with fail
        go_ret
        exact ⟨by rw [HR3.out, HTT.out]; rfl, HB2.out⟩
  · have hne : ((tn : Int) == r) = false := beq_eq_false_iff_ne.2 hln
    have HR3 := Lib.hid (show metaR W H b tn ls = false from by rw [HMR2.out, decide_eq_false hln, Bool.false_and])
    go_wp2_with fail
    go_ret
    exact ⟨by rw [HR3.out]; rfl, HB2.out⟩
end Go.Proofs.Ytbnelomknjnplaa
