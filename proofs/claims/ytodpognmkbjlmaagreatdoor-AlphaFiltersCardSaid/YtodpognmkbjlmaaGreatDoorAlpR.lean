/- The reference's guess and Filter. -/
import Derived.Test.YtodpognmkbjlmaaGreatDoorAlp2
import Derived.BigQuiet
import Derived.Deep.RegionHeld3
namespace Go.Proofs.YtodpognmkbjlmaaGreatDoor
open Go.RowKit
open Go.Proofs.YtodpognmkbjlmaaGreatDoorW.PrintWords

set_option maxHeartbeats 2000000 in
theorem refGuess_any (f W n c x y t : Nat) (A : Option Addr) (bs : List Int) (w : World) (HR : ReadsInt w .u8 A n bs) (has : ∀ v ∈ bs, 0 ≤ v ∧ v ≤ 255) (hx : x < W) (htt : y * W + x = t) (ht : t < n) (hn : n ≤ 300000000) (hf : f ≤ 3) :
    Calls Tryz.prog 17 #[.slice A n c, .int .i64 W, .int .i64 f, .int .i64 x, .int .i64 y] w fun e w' => e = .returned (.int .i64 (Alp.gs f W (fun j => bs.getD j 0) t)) ∧ ∃ q, w' = w.drewN q := by
  obtain ⟨ad, rfl, hcell⟩ := HR.2.2 (by omega)
  have hmod := pl_mod htt hx
  have htop := pl_top htt hx
  have hA255 := fun j => Alp.getD_255 has j
  have hy3 : y < 300000001 := by
    rcases Nat.lt_or_ge y 300000001 with h | h
    · exact h
    · have h2 : 300000001 * 1 ≤ y * W := Nat.mul_le_mul h (by omega)
      omega
  have e0 : (y : Int) * (W : Int) = ((y * W : Nat) : Int) := by push_cast; rfl
  have e1 : wrap64 ((y : Int) * (W : Int)) = (y : Int) * (W : Int) := by rw [e0]; exact w64 _ (by omega) (by omega)
  have e2 : wrap64 ((y : Int) * (W : Int) + (x : Int)) = (t : Int) := by rw [e0, w64 _ (by omega) (by omega)]; omega
  clear e0
  have q0 : ∃ q, w = w.drewN q := ⟨0, rfl⟩
  have HQ0 := Lib.hid q0
  clear q0 HR has
  by_cases h0 : f = 0
  · have d0 : ((f : Int) == 0) = true := beq_iff_eq.2 (by omega)
    rw [gs_zero (.inl h0)]
    clear hcell hA255
    go_enter Tryz.func17, Tryz.ntmps17
    go_wp2_with fail
    go_ret
    exact ⟨rfl, HQ0.out⟩
  have d0 : ((f : Int) == 0) = false := beq_eq_false_iff_ne.2 (by omega)
  by_cases hy0 : y = 0
  · have dy : ((y : Int) == 0) = true := beq_iff_eq.2 (by omega)
    by_cases hx0 : x = 0
    · have dx : ((x : Int) == 0) = true := beq_iff_eq.2 (by omega)
      rw [gs_zero (.inr (by subst hy0; omega))]
      clear hcell hA255
      go_enter Tryz.func17, Tryz.ntmps17
      go_wp2_with fail
      go_ret
      exact ⟨rfl, HQ0.out⟩
    · have dx : ((x : Int) == 0) = false := beq_eq_false_iff_ne.2 (by omega)
      have ht0 : t = x := by subst hy0; omega
      rw [gs_top (by omega) (htop.2 hy0)]
      obtain ⟨t1, ht1⟩ : ∃ t1, t1 + 1 = t := ⟨t - 1, by omega⟩
      have g1 : wrap64 ((t : Int) - 1) = (t1 : Int) := by rw [w64 _ (by omega) (by omega)]; omega
      have cv := hcell t1 (by omega)
      have hv := hA255 t1
      have cv2 : w.cell? (ad.add (x - 1)) = some (.int .u8 (bs.getD t1 0)) := by rw [show x - 1 = t1 by omega]; exact cv
      have cv3 : w.cell? (ad.add (t - 1)) = some (.int .u8 (bs.getD t1 0)) := by rw [show t - 1 = t1 by omega]; exact cv
      rw [show t - 1 = t1 by omega]
      generalize bs.getD t1 0 = v at *
      have hv2 : wrap64 v = v := w64 _ (by omega) (by omega)
      have k1 : (0 : Int) ≤ (t1 : Int) := by omega
      have k2 : (t1 : Int) < (n : Int) := by omega
      have k3 : (1 : Int) ≤ (x : Int) := by omega
      have k4 : (x : Int) - 1 < (n : Int) := by omega
      have k5 : (0 : Int) ≤ (x : Int) - 1 := by omega
      have k6 : (x : Int) < (n : Int) + 1 := by omega
      have k7 : (1 : Int) ≤ (t : Int) := by omega
      have k8 : (0 : Int) ≤ (t : Int) - 1 := by omega
      have k9 : (t : Int) - 1 < (n : Int) := by omega
      have k10 : 1 ≤ t := by omega
      have k11 : (0 : Int) < (t : Int) := by omega
      clear hcell hA255 hmod htop htt ht1 ht0 hy0 hx0
      go_enter Tryz.func17, Tryz.ntmps17
      go_wp2_with fail
      go_ret
      exact ⟨by first | rfl | rw [hv2], HQ0.out⟩
  have dy : ((y : Int) == 0) = false := beq_eq_false_iff_ne.2 (by omega)
  obtain ⟨hup, hWt⟩ := pl_up htt (by omega)
  have htW : ¬ t < W := by omega
  obtain ⟨tW, htW2⟩ : ∃ tW, tW + W = t := ⟨t - W, by omega⟩
  have g2 : wrap64 ((t : Int) - (W : Int)) = (tW : Int) := by rw [w64 _ (by omega) (by omega)]; omega
  by_cases hx0 : x = 0
  · have dx : ((x : Int) == 0) = true := beq_iff_eq.2 (by omega)
    have dx2 : decide ((0 : Int) < (x : Int)) = false := decide_eq_false (by omega)
    rw [gs_left (by omega) htW (by omega), show t - W = tW by omega]
    have cv := hcell tW (by omega)
    have hv := hA255 tW
    have cv3 : w.cell? (ad.add (t - W)) = some (.int .u8 (bs.getD tW 0)) := by rw [show t - W = tW by omega]; exact cv
    generalize bs.getD tW 0 = v at *
    have hv2 : wrap64 v = v := w64 _ (by omega) (by omega)
    have k1 : (0 : Int) ≤ (tW : Int) := by omega
    have k2 : (tW : Int) < (n : Int) := by omega
    clear hcell hA255 hmod htop htt hup htW2 hx0
    go_enter Tryz.func17, Tryz.ntmps17
    go_wp2_with fail
    go_ret
    exact ⟨by first | rfl | rw [hv2], HQ0.out⟩
  have dx : ((x : Int) == 0) = false := beq_eq_false_iff_ne.2 (by omega)
  have dx2 : decide ((0 : Int) < (x : Int)) = true := decide_eq_true (by omega)
  obtain ⟨t1, ht1⟩ : ∃ t1, t1 + 1 = t := ⟨t - 1, by omega⟩
  have g1 : wrap64 ((t : Int) - 1) = (t1 : Int) := by rw [w64 _ (by omega) (by omega)]; omega
  have hf3 : f = 1 ∨ f = 2 ∨ f = 3 := by omega
  rcases hf3 with rfl | rfl | rfl
  · rw [gs_one (by omega) htW (by omega), show t - 1 = t1 by omega]
    have cv := hcell t1 (by omega)
    have hv := hA255 t1
    have cv3 : w.cell? (ad.add (t - 1)) = some (.int .u8 (bs.getD t1 0)) := by rw [show t - 1 = t1 by omega]; exact cv
    generalize bs.getD t1 0 = v at *
    have hv2 : wrap64 v = v := w64 _ (by omega) (by omega)
    have k1 : (0 : Int) ≤ (t1 : Int) := by omega
    have k2 : (t1 : Int) < (n : Int) := by omega
    clear hcell hA255 hmod htop htt hup htW2 ht1
    go_enter Tryz.func17, Tryz.ntmps17
    go_wp2_with fail
    go_ret
    exact ⟨by first | rfl | rw [hv2], HQ0.out⟩
  · rw [gs_two (by omega) htW (by omega), show t - W = tW by omega]
    have cv := hcell tW (by omega)
    have hv := hA255 tW
    have cv3 : w.cell? (ad.add (t - W)) = some (.int .u8 (bs.getD tW 0)) := by rw [show t - W = tW by omega]; exact cv
    generalize bs.getD tW 0 = v at *
    have hv2 : wrap64 v = v := w64 _ (by omega) (by omega)
    have k1 : (0 : Int) ≤ (tW : Int) := by omega
    have k2 : (tW : Int) < (n : Int) := by omega
    clear hcell hA255 hmod htop htt hup htW2 ht1
    go_enter Tryz.func17, Tryz.ntmps17
    go_wp2_with fail
    go_ret
    exact ⟨by first | rfl | rw [hv2], HQ0.out⟩
  · obtain ⟨tc, htc⟩ : ∃ tc, tc + 1 = tW := ⟨tW - 1, by
      rcases Nat.eq_zero_or_pos tW with h | h
      · exfalso
        have : y - 1 = 0 ∧ x = 0 ∨ 0 < x := .inr (by omega)
        omega
      · omega⟩
    rw [gs_three (by omega) htW (by omega), show t - 1 = t1 by omega, show t - W - 1 = tc by omega, show t - W = tW by omega]
    have g3 : wrap64 ((tW : Int) - 1) = (tc : Int) := by rw [w64 _ (by omega) (by omega)]; omega
    have ca := hcell t1 (by omega)
    have cb := hcell tW (by omega)
    have cc := hcell tc (by omega)
    have ha := hA255 t1
    have hb := hA255 tW
    have hc := hA255 tc
    generalize bs.getD t1 0 = va at *
    generalize bs.getD tW 0 = vb at *
    generalize bs.getD tc 0 = vc at *
    have hv1 : wrap64 va = va := w64 _ (by omega) (by omega)
    have hv2 : wrap64 vb = vb := w64 _ (by omega) (by omega)
    have hv3 : wrap64 vc = vc := w64 _ (by omega) (by omega)
    have g4 : wrap64 (va + vb) = va + vb := w64 _ (by omega) (by omega)
    have g5 : wrap64 (va + vb - vc) = va + vb - vc := w64 _ (by omega) (by omega)
    have i1 : IntKind.i64.wrap ((t : Int) - 1) = (t1 : Int) := by rw [IntWalk.i64_in _ (by omega)]; omega
    have i2 : IntKind.i64.wrap ((t : Int) - (W : Int)) = (tW : Int) := by rw [IntWalk.i64_in _ (by omega)]; omega
    have i3 : IntKind.i64.wrap ((tW : Int) - 1) = (tc : Int) := by rw [IntWalk.i64_in _ (by omega)]; omega
    have i4 : IntKind.i64.wrap (va + vb) = va + vb := IntWalk.i64_in _ (by omega)
    have i5 : IntKind.i64.wrap (va + vb - vc) = va + vb - vc := IntWalk.i64_in _ (by omega)
    have i6 : IntKind.i64.wrap va = va := IntWalk.i64_in _ (by omega)
    have i7 : IntKind.i64.wrap vb = vb := IntWalk.i64_in _ (by omega)
    have i8 : IntKind.i64.wrap vc = vc := IntWalk.i64_in _ (by omega)
    have k1 : (0 : Int) ≤ (t1 : Int) := by omega
    have k2 : (t1 : Int) < (n : Int) := by omega
    have k3 : (0 : Int) ≤ (tW : Int) := by omega
    have k4 : (tW : Int) < (n : Int) := by omega
    have k5 : (0 : Int) ≤ (tc : Int) := by omega
    have k6 : (tc : Int) < (n : Int) := by omega
    have HC : Hid (∀ v : Int, (va + vb - vc < 0 ∧ v = 0 ∨ 255 < va + vb - vc ∧ v = 255 ∨ 0 ≤ va + vb - vc ∧ va + vb - vc ≤ 255 ∧ v = va + vb - vc) → Alp.cut (va + vb - vc) = v) := Lib.hid (show ∀ v : Int, (va + vb - vc < 0 ∧ v = 0 ∨ 255 < va + vb - vc ∧ v = 255 ∨ 0 ≤ va + vb - vc ∧ va + vb - vc ≤ 255 ∧ v = va + vb - vc) → Alp.cut (va + vb - vc) = v from fun v h => by unfold Alp.cut; split <;> (try split) <;> omega)
    clear hcell hA255 hmod htop htt hup htW2 ht1 htc
    go_enter Tryz.func17, Tryz.ntmps17
    go_upto_region 8 with fail
    go_quiet (fail)
    by_cases n0 : va + vb - vc < 0
    · have d1 : decide (va + vb - vc < 0) = true := decide_eq_true n0
      have HH := Lib.hid (HC.out 0 (by omega))
      go_wp2_with fail
      go_ret
      exact ⟨by rw [HH.out]; rfl, _, rfl⟩
    · have d1 : decide (va + vb - vc < 0) = false := decide_eq_false n0
      by_cases n2 : 255 < va + vb - vc
      · have d2 : decide (255 < va + vb - vc) = true := decide_eq_true n2
        have HH := Lib.hid (HC.out 255 (by omega))
        go_wp2_with fail
        go_ret
        exact ⟨by rw [HH.out]; rfl, _, rfl⟩
      · have d2 : decide (255 < va + vb - vc) = false := decide_eq_false n2
        have HH := Lib.hid (HC.out (va + vb - vc) (by omega))
        go_wp2_with fail
        go_ret
        exact ⟨by rw [HH.out]; rfl, _, rfl⟩
end Go.Proofs.YtodpognmkbjlmaaGreatDoor
