/- Groups of blocks: plan.meta, and the reference's Meta. -/
import Derived.Test.YtbnelomknjnplaaPlnC
import Derived.BigQuiet
namespace Go.Proofs.Ytbnelomknjnplaa
open Go.RowKit
open Go.Proofs.YtbnelomknjnplaaW.PrintWords

theorem blocks_exact {n B : Int} (hB : 0 < B) (h : n % B = 0) : (n + B - 1) / B = n / B := by
  have e := Int.mul_ediv_add_emod n B
  rw [h, Int.add_zero] at e
  have e2 : n + B - 1 = (B - 1) + B * (n / B) := by omega
  rw [e2, Int.add_mul_ediv_left _ _ (by omega), Int.ediv_eq_zero_of_lt (by omega) (by omega)]; omega
theorem blocks_rest {n B : Int} (hB : 0 < B) (h : ¬ n % B = 0) : (n + B - 1) / B = n / B + 1 := by
  have e := Int.mul_ediv_add_emod n B
  have h1 := Int.emod_nonneg n (show B ≠ 0 by omega)
  have h2 := Int.emod_lt_of_pos n hB
  have e2 : n + B - 1 = (n % B - 1) + B * (n / B + 1) := by rw [Int.mul_add, Int.mul_one]; omega
  rw [e2, Int.add_mul_ediv_left _ _ (by omega), Int.ediv_eq_zero_of_lt (by omega) (by omega)]; omega
set_option maxHeartbeats 1000000 in
theorem refBlocks9 (n : Int) (b : Nat) (w : World) (h0 : 0 ≤ n) (h1 : n ≤ 16777216) (hb : b ≤ 9) : Calls Try.prog 29 #[.int .i64 n, .int .i64 b] w fun e w' => e = .returned (.int .i64 (blocksI n b)) ∧ w = w' := by
  unfold blocksI
  obtain ⟨B, hB⟩ : ∃ B : Nat, 2 ^ b = B := ⟨_, rfl⟩
  have hBi : (2 : Int) ^ b = (B : Int) := by rw [← hB]; norm_cast
  rw [hBi]
  have hB1 : 1 ≤ B ∧ B ≤ 512 := by
    rw [← hB]
    exact ⟨Nat.pow_pos (by decide), Nat.pow_le_pow_right (show 0 < 2 by decide) hb⟩
  have HBB := Lib.hid hB
  clear hB hBi
  have hz1 : ¬ n < 0 := by omega
  have hz2 : ¬ 16777216 < n := by omega
  have hz3 : ¬ (b : Int) < 0 := by omega
  have hz4 : ¬ 30 < (b : Int) := by omega
  go_enter Try.func29, Try.ntmps29
  go_wp2_with fail
  go_loopw [5, 6] (fun v i wr => ∃ k y : Nat, k ≤ b ∧ i = .int .i64 k ∧ v = .int .i64 y ∧ Hid (y = 2 ^ k) ∧ wr = w) (fun _ i _ => b - (intOf i).toNat)
  case atStart => exact ⟨0, 1, Nat.zero_le _, rfl, rfl, Lib.hid rfl, rfl⟩
  case round =>
    obtain ⟨k, y, hk, rfl, rfl, HY, rfl⟩ := hrel
    by_cases hlt : k < b
    · have hy : y ≤ 512 := by
        rw [HY.out]
        have := Nat.pow_le_pow_right (show 0 < 2 by decide) (show k ≤ 9 by omega)
        omega
      go_wp2_with fail
      go_roundw
      case rel => exact ⟨k + 1, y * 2, by omega, by go_num, by go_num, Lib.hid (by rw [HY.out, Nat.pow_succ]), by first | rfl | trivial⟩
      case measure => simp [intOf]; omega
    · have : k = b := by omega
      subst this
      have : y = B := by rw [HY.out, HBB.out]
      subst this
      have hy0 : ¬ y = 0 := by omega
      by_cases hm : n % (y : Int) = 0
      · have HQ := Lib.hid (blocks_exact (n := n) (B := (y : Int)) (by omega) hm)
        have hd : ((n % (y : Int)) == 0) = true := by simpa using hm
        go_wp2_with fail
        go_ret
        exact ⟨by rw [HQ.out]; rfl, rfl⟩
      · have HQ := Lib.hid (blocks_rest (n := n) (B := (y : Int)) (by omega) hm)
        have hr : 0 ≤ n / (y : Int) ∧ n / (y : Int) ≤ 16777216 := by
          refine ⟨Int.ediv_nonneg h0 (by omega), ?_⟩
          have := Int.ediv_le_self (y : Int) h0
          omega
        have hd : ((n % (y : Int)) == 0) = false := by simpa using hm
        have hq : n.tdiv (y : Int) = n / (y : Int) := Int.tdiv_eq_ediv_of_nonneg h0
        have HQ2 := Lib.hid hq
        clear hq
        go_wp2_with fail
        all_goals
          go_ret
          exact ⟨by rw [HQ.out, ← HQ2.out]; rfl, rfl⟩

theorem pow_step (n : Int) (b : Nat) (h0 : 1 ≤ n) (hb1 : 2 ≤ b) (hb : b ≤ 9) : 0 ≤ blocksI n b ∧ blocksI n b ≤ n := by
  have : b = 2 ∨ b = 3 ∨ b = 4 ∨ b = 5 ∨ b = 6 ∨ b = 7 ∨ b = 8 ∨ b = 9 := by omega
  unfold blocksI
  rcases this with rfl | rfl | rfl | rfl | rfl | rfl | rfl | rfl <;> omega
theorem leBlocks9 (n : Int) (b : Nat) (w : World) (h0 : 0 ≤ n) (h1 : n ≤ 16777216) (hb1 : 2 ≤ b) (hb : b ≤ 9) : Calls Try.prog 24 #[.int .i64 n, .int .i64 b] w fun e w' => e = .returned (.int .i64 (blocksI n b)) ∧ w = w' := by
  unfold blocksI
  have : b = 2 ∨ b = 3 ∨ b = 4 ∨ b = 5 ∨ b = 6 ∨ b = 7 ∨ b = 8 ∨ b = 9 := by omega
  rcases this with rfl | rfl | rfl | rfl | rfl | rfl | rfl | rfl
  all_goals
    go_enter Try.func24, Try.ntmps24
    go_wp2_with fail
    go_ret
    exact ⟨by simp, rfl⟩

/-- Is each group one from 0 to 63? -/
def metaP (ls : List Int) : Bool := ls.all fun x => decide (0 ≤ x) && decide (x < 64)
theorem bits_may (n : Int) (w : World) (b : Bool) (h : (decide (2 ≤ n) && decide (n ≤ 9)) = b) : Calls Try.prog 23 #[.int .i64 n] w fun e w' => e = .returned (.bool b) ∧ w = w' := by
  subst h
  by_cases h1 : 2 ≤ n
  · have d1 : decide (2 ≤ n) = true := decide_eq_true h1
    rw [d1, Bool.true_and]
    go_enter Try.func23, Try.ntmps23
    go_wp2_with fail
    go_ret
    exact ⟨rfl, rfl⟩
  · have d1 : decide (2 ≤ n) = false := decide_eq_false h1
    rw [d1, Bool.false_and]
    go_enter Try.func23, Try.ntmps23
    go_wp2_with fail
    go_ret
    exact ⟨rfl, rfl⟩
theorem bad_group (x : Int) (w : World) : Calls Try.prog 22 #[.int .i64 x] w fun e w' => e = .returned (.bool (!(decide (0 ≤ x) && decide (x < 64)))) ∧ w = w' := by
  by_cases h1 : x < 0
  · have d1 : decide (x < 0) = true := decide_eq_true h1
    have d2 : decide (0 ≤ x) = false := decide_eq_false (by omega)
    rw [d2]
    go_enter Try.func22, Try.ntmps22
    go_wp2_with fail
    go_ret
    exact ⟨rfl, rfl⟩
  · have d1 : decide (x < 0) = false := decide_eq_false h1
    have d2 : decide (0 ≤ x) = true := decide_eq_true (by omega)
    by_cases h3 : x < 64
    · have d3 : decide (x < 64) = true := decide_eq_true h3
      have d4 : decide (64 ≤ x) = false := decide_eq_false (by omega)
      rw [d2, d3]
      go_enter Try.func22, Try.ntmps22
      go_wp2_with fail
      go_ret
      exact ⟨rfl, rfl⟩
    · have d3 : decide (x < 64) = false := decide_eq_false h3
      have d4 : decide (64 ≤ x) = true := decide_eq_true (by omega)
      rw [d2, d3]
      go_enter Try.func22, Try.ntmps22
      go_wp2_with fail
      go_ret
      exact ⟨rfl, rfl⟩
abbrev badV : Value := .func (.func 22) #[] #[]
theorem metaP_take {ls : List Int} {k : Nat} (hk : k < ls.length) : metaP (ls.take (k + 1)) = (metaP (ls.take k) && (decide (0 ≤ ls.getD k 0) && decide (ls.getD k 0 < 64))) := by
  unfold metaP
  rw [List.take_add_one, List.getElem?_eq_getElem hk, List.all_append, List.getD_eq_getElem?_getD, List.getElem?_eq_getElem hk]
  simp
theorem metaP_cut {ls : List Int} {k : Nat} (h : metaP (ls.take k) = false) : metaP ls = false := by
  unfold metaP at h ⊢
  rw [List.all_eq_false] at h ⊢
  obtain ⟨x, hx, h⟩ := h
  exact ⟨x, List.mem_of_mem_take hx, h⟩
set_option maxHeartbeats 1000000 in
theorem index_bad (A : Option Addr) (n c : Nat) (ls : List Int) (w : World) (HR : ReadsInt w .i64 A n ls) : Calls Try.prog 35 #[.slice A n c, badV] w fun e w' => (∃ r : Int, e = .returned (.int .i64 r) ∧ decide (0 ≤ r) = !metaP ls) ∧ w = w' := by
  have HRR := Lib.hid HR
  have hmx := HR.2.1
  clear HR
  go_enter Try.func35, Try.ntmps35
  go_wp2_with fail
  go_loopw [5, 8] (fun _ i wr => ∃ k : Nat, k ≤ n ∧ i = .int .i64 k ∧ wr = w ∧ Hid (metaP (ls.take k) = true)) (fun _ i _ => n - (intOf i).toNat)
  case atStart => exact ⟨0, Nat.zero_le _, rfl, rfl, Lib.hid rfl⟩
  case round =>
    obtain ⟨k, hk, rfl, rfl, HM⟩ := hrel
    by_cases hlt : k < n
    · obtain ⟨ad, hA, hcell⟩ := HRR.out.2.2 (by omega)
      subst hA
      have c1 := hcell k hlt
      have hst := metaP_take (ls := ls) (k := k) (by rw [HRR.out.1]; exact hlt)
      rw [HM.out, Bool.true_and] at hst
      obtain ⟨x, hx⟩ : ∃ x, ls.getD k 0 = x := ⟨_, rfl⟩
      rw [hx] at c1 hst
      have HST := Lib.hid hst
      have h1 : (k : Int) < (n : Int) := by omega
      have h2 : (0 : Int) ≤ (k : Int) := by omega
      clear hcell hx hst
      go_wp2_with fail
      refine (bad_group x _).mono ?_
      rintro e w' ⟨rfl, rfl⟩
      cases hb : (decide (0 ≤ x) && decide (x < 64)) with
      | true =>
        have HST2 := Lib.hid (HST.out.trans hb)
        clear HST hb
        go_wp2_with fail
        go_roundw
        case rel => exact ⟨k + 1, by omega, by go_num, by first | rfl | trivial, HST2⟩
        case measure => simp [intOf]; omega
      | false =>
        have HF := Lib.hid (metaP_cut (HST.out.trans hb))
        clear HST hb
        go_wp2_with fail
        go_ret
        exact ⟨⟨_, rfl, by rw [HF.out]; exact decide_eq_true h2⟩, rfl⟩
    · obtain rfl : k = n := by omega
      have HT := Lib.hid (show metaP ls = true from by have := HM.out; rwa [List.take_of_length_le (by rw [HRR.out.1]; exact Nat.le_refl _)] at this)
      clear HM
      have h3 : decide ((k : Int) < (k : Int)) = false := by simp
      go_wp2_with fail
      go_ret
      exact ⟨⟨_, rfl, by rw [HT.out]; rfl⟩, rfl⟩
theorem contains_bad (A : Option Addr) (n c : Nat) (ls : List Int) (w : World) (HR : ReadsInt w .i64 A n ls) : Calls Try.prog 25 #[.slice A n c, badV] w fun e w' => e = .returned (.bool (!metaP ls)) ∧ w = w' := by
  have HRR := Lib.hid HR
  clear HR
  go_enter Try.func25, Try.ntmps25
  go_wp2_with fail
  refine (index_bad A n c ls w HRR.out).mono ?_
  rintro e w' ⟨⟨r, rfl, hr⟩, rfl⟩
  have HRB := Lib.hid hr
  clear hr
  go_wp2_with fail
  go_ret
  exact ⟨by rw [← HRB.out]; rfl, rfl⟩

/-- May groups be so? -/
def metaR (W H mb : Int) (tn : Nat) (ls : List Int) : Bool :=
  decide (mb = 0) || ((decide (2 ≤ mb) && decide (mb ≤ 9)) && (decide ((tn : Int) = blocksI W mb.toNat * blocksI H mb.toNat) && metaP ls))
set_option maxHeartbeats 4000000 in
theorem meta_some (W H : Int) (A : Option Addr) (n c : Nat) (S : Option Addr) (sn sc : Nat) (ca mb : Int) (T : Option Addr) (tn tc : Nat) (ls : List Int) (w : World) (HT : ReadsInt w .i64 T tn ls) (hW : 1 ≤ W ∧ W ≤ 16384) (hH : 1 ≤ H ∧ H ≤ 16384) (hmb : mb ≠ 0) :
    Calls Try.prog 12 #[.agg #[.int .i64 W, .int .i64 H, .slice A n c], .agg (planC S sn sc ca mb T tn tc)] w fun e w' => e = .returned (.bool (metaR W H mb tn ls)) ∧ Below w.heap.size w w' := by
  obtain ⟨h1, h2, hb, hs⟩ := boxes2 w #[.int .i64 W, .int .i64 H, .slice A n c] (planC S sn sc ca mb T tn tc) 24 32
  have HB := Lib.hid hb; have H1 := Lib.hid h1; have H2 := Lib.hid h2
  have HT0 := Lib.hid (HT.below hb)
  have hm0 : (mb == 0) = false := by simpa using hmb
  have HMR := Lib.hid (show metaR W H mb tn ls = ((decide (2 ≤ mb) && decide (mb ≤ 9)) && (decide ((tn : Int) = blocksI W mb.toNat * blocksI H mb.toNat) && metaP ls)) from by unfold metaR; rw [decide_eq_false hmb, Bool.false_or])
  clear h1 h2 hb HT hmb
  obtain ⟨i0, i1, i2, _, _, _⟩ := box3 H1.out
  obtain ⟨s0, s1, s2, s3, s4, s5, s6, s7, s8⟩ := box9 H2.out
  have HBq := Lib.hid (show ∀ q, Below w.heap.size w ((((w.alloc (.cells #[.int .i64 W, .int .i64 H, .slice A n c] 24)).alloc (.cells (planC S sn sc ca mb T tn tc) 32))).drewN q) from fun q => below_then HB.out (by omega) ⟨rfl, rfl, rfl, Nat.le_of_eq (by rw [heap_drewN]), fun _ _ => by rw [heap_drewN]⟩)
  cases hbb : (decide (2 ≤ mb) && decide (mb ≤ 9)) with
  | false =>
    have HBM := Lib.hid (fun wz => bits_may mb wz false hbb)
    have HR := Lib.hid (HMR.out.trans (by rw [hbb, Bool.false_and]))
    clear HMR hbb
    go_enter Try.func12, Try.ntmps12
    go_wp2_with fail
    generalize (w.alloc (.cells #[.int .i64 W, .int .i64 H, .slice A n c] 24)).alloc (.cells (planC S sn sc ca mb T tn tc) 32) = w1 at *
    go_quiet ((go_at_call 23; exact Calls.quiet_of_same ((HBM.out _).mono fun _ _ h => ⟨h.1, h.2.symm⟩)))
    go_wp2_with fail
    go_ret
    exact ⟨by rw [HR.out]; rfl, HBq.out _⟩
  | true =>
    have hm : 2 ≤ mb ∧ mb ≤ 9 := by simpa using hbb
    obtain ⟨b, rfl⟩ : ∃ b : Nat, mb = b := ⟨mb.toNat, by omega⟩
    have hb2 : 2 ≤ b := by omega
    have hb9 : b ≤ 9 := by omega
    have HBM := Lib.hid (fun wz => bits_may (b : Int) wz true hbb)
    have hmr := HMR.out
    rw [hbb, Bool.true_and, Int.toNat_natCast] at hmr
    have hpW := pow_step W b hW.1 hb2 hb9
    have hpH := pow_step H b hH.1 hb2 hb9
    clear HMR hbb hm
    have hpq : 0 ≤ blocksI W b * blocksI H b ∧ blocksI W b * blocksI H b ≤ 16384 * 16384 := ⟨Int.mul_nonneg hpW.1 hpH.1, Int.mul_le_mul (by omega) (by omega) hpH.1 (by omega)⟩
    have hwr : IntKind.i64.wrap (blocksI W b * blocksI H b) = blocksI W b * blocksI H b := IntWalk.i64_in _ (by omega)
    obtain ⟨r, hr⟩ : ∃ r, blocksI W b * blocksI H b = r := ⟨_, rfl⟩
    rw [hr] at hmr
    conv at hwr => rhs; rw [hr]
    cases hln : decide ((tn : Int) = r) with
    | false =>
      have hne : ((tn : Int) == r) = false := beq_eq_false_iff_ne.2 (of_decide_eq_false hln)
      have HR := Lib.hid (hmr.trans (by rw [hln, Bool.false_and]))
      clear hmr hr hpq hpW hpH
      go_enter Try.func12, Try.ntmps12
      go_wp2_with fail
      generalize (w.alloc (.cells #[.int .i64 W, .int .i64 H, .slice A n c] 24)).alloc (.cells (planC S sn sc ca b T tn tc) 32) = w1 at *
      go_quiet ((first
        | (go_at_call 23; exact Calls.quiet_of_same ((HBM.out _).mono fun _ _ h => ⟨h.1, h.2.symm⟩))
        | (go_at_call 24; exact Calls.quiet_of_same ((leBlocks9 _ b _ (by omega) (by omega) hb2 hb9).mono fun _ _ h => ⟨h.1, h.2.symm⟩))
        | fail))
      go_wp2_with fail
      go_ret
      exact ⟨by rw [HR.out]; rfl, HBq.out _⟩
    | true =>
      have hne : ((tn : Int) == r) = true := beq_iff_eq.2 (of_decide_eq_true hln)
      have HR := Lib.hid (hmr.trans (by rw [hln, Bool.true_and]))
      have HCB := Lib.hid (fun wz (h : ReadsInt wz .i64 T tn ls) => contains_bad T tn tc ls wz h)
      clear hmr hr hpq hpW hpH
      go_enter Try.func12, Try.ntmps12
      go_wp2_with fail
      generalize (w.alloc (.cells #[.int .i64 W, .int .i64 H, .slice A n c] 24)).alloc (.cells (planC S sn sc ca b T tn tc) 32) = w1 at *
      have HTq := Lib.hid (show ∀ q, ReadsInt (w1.drewN q) .i64 T tn ls from fun q => HT0.out.below ⟨rfl, rfl, rfl, Nat.le_of_eq (by rw [heap_drewN]), fun _ _ => by rw [heap_drewN]⟩)
      go_quiet ((first
        | (go_at_call 23; exact Calls.quiet_of_same ((HBM.out _).mono fun _ _ h => ⟨h.1, h.2.symm⟩))
        | (go_at_call 24; exact Calls.quiet_of_same ((leBlocks9 _ b _ (by omega) (by omega) hb2 hb9).mono fun _ _ h => ⟨h.1, h.2.symm⟩))
        | (go_at_call 25; exact Calls.quiet_of_same ((HCB.out _ (HTq.out _)).mono fun _ _ h => ⟨h.1, h.2.symm⟩))
        | fail))
      go_wp2_with fail
      go_ret
      exact ⟨by rw [HR.out]; first | rfl | simp, HBq.out _⟩
end Go.Proofs.Ytbnelomknjnplaa
