/- Package alpha: may a plane be; what a byte may be. -/
import Derived.Test.YtodpognmkbjlmaaGreatDoorBoxG
import Derived.Test.YtodpognmkbjlmaaGreatDoorAlpP
namespace Go.Proofs.YtodpognmkbjlmaaGreatDoor
open Go.RowKit
open Go.Proofs.YtodpognmkbjlmaaGreatDoorW.PrintWords

theorem side_b (n : Int) (w : World) (b : Bool) (h : (decide (1 ≤ n) && decide (n ≤ 16384)) = b) : Calls Tryz.prog 19 #[.int .i64 n] w fun e w' => e = .returned (.bool b) ∧ w = w' := by
  subst h
  by_cases h1 : 1 ≤ n
  · have d1 : decide (1 ≤ n) = true := decide_eq_true h1
    rw [d1, Bool.true_and]
    go_enter Tryz.func19, Tryz.ntmps19
    go_wp2_with fail
    go_ret
    exact ⟨rfl, rfl⟩
  · have d1 : decide (1 ≤ n) = false := decide_eq_false h1
    rw [d1, Bool.false_and]
    go_enter Tryz.func19, Tryz.ntmps19
    go_wp2_with fail
    go_ret
    exact ⟨rfl, rfl⟩
theorem filter_b (n : Int) (w : World) (b : Bool) (h : (decide (0 ≤ n) && decide (n ≤ 3)) = b) : Calls Tryz.prog 14 #[.int .i64 n] w fun e w' => e = .returned (.bool b) ∧ w = w' := by
  subst h
  by_cases h1 : 0 ≤ n
  · have d1 : decide (0 ≤ n) = true := decide_eq_true h1
    rw [d1, Bool.true_and]
    go_enter Tryz.func14, Tryz.ntmps14
    go_wp2_with fail
    go_ret
    exact ⟨rfl, rfl⟩
  · have d1 : decide (0 ≤ n) = false := decide_eq_false h1
    rw [d1, Bool.false_and]
    go_enter Tryz.func14, Tryz.ntmps14
    go_wp2_with fail
    go_ret
    exact ⟨rfl, rfl⟩
/-- The three tests of a plane. -/
theorem good_split (W H : Int) (n : Nat) : goodI W H n = ((decide (1 ≤ W) && decide (W ≤ 16384)) && ((decide (1 ≤ H) && decide (H ≤ 16384)) && decide ((n : Int) = W * H))) := by
  unfold goodI
  by_cases a : 1 ≤ W <;> by_cases b : W ≤ 16384 <;> by_cases c : 1 ≤ H <;> by_cases d : H ≤ 16384 <;> simp [a, b, c, d]
theorem goodPl_any (W H : Int) (A : Option Addr) (n c : Nat) (w : World) : Calls Tryz.prog 13 #[.agg #[.int .i64 W, .int .i64 H, .slice A n c]] w fun e w' => e = .returned (.bool (goodI W H n)) ∧ Below w.heap.size w w' := by
  rw [good_split]
  have hnew := alloc_new w #[.int .i64 W, .int .i64 H, .slice A n c] 24
  have hb0 := (Below.refl _ w).alloc (Nat.le_refl _) (.cells #[.int .i64 W, .int .i64 H, .slice A n c] 24)
  have HB0 := Lib.hid hb0
  obtain ⟨i0, i1, i2, _, _, _⟩ := box3 hnew
  clear hnew hb0
  cases hW : (decide (1 ≤ W) && decide (W ≤ 16384)) with
  | false =>
    rw [Bool.false_and]
    go_enter Tryz.func13, Tryz.ntmps13
    go_wp2_with fail
    refine (side_b W _ false hW).mono ?_
    rintro e w' ⟨rfl, rfl⟩
    go_wp2_with fail
    go_ret
    exact ⟨rfl, HB0.out⟩
  | true =>
    rw [Bool.true_and]
    cases hH : (decide (1 ≤ H) && decide (H ≤ 16384)) with
    | false =>
      rw [Bool.false_and]
      go_enter Tryz.func13, Tryz.ntmps13
      go_wp2_with fail
      refine (side_b W _ true hW).mono ?_
      rintro e w' ⟨rfl, rfl⟩
      go_wp2_with fail
      refine (side_b H _ false hH).mono ?_
      rintro e w' ⟨rfl, rfl⟩
      go_wp2_with fail
      go_ret
      exact ⟨rfl, HB0.out⟩
    | true =>
      rw [Bool.true_and]
      have rW : 1 ≤ W ∧ W ≤ 16384 := by simpa using hW
      have rH : 1 ≤ H ∧ H ≤ 16384 := by simpa using hH
      have hpr := prod_room rW.1 rW.2 rH.1 rH.2
      have hwr : IntKind.i64.wrap (W * H) = W * H := IntWalk.i64_in _ (by omega)
      have hwr2 : wrap64 (W * H) = W * H := w64 _ (by omega) (by omega)
      have hdb : ((n : Int) == W * H) = decide ((n : Int) = W * H) := by
        by_cases h : (n : Int) = W * H
        · rw [decide_eq_true h]; exact beq_iff_eq.2 h
        · rw [decide_eq_false h]; exact beq_eq_false_iff_ne.2 h
      go_enter Tryz.func13, Tryz.ntmps13
      go_wp2_with fail
      refine (side_b W _ true hW).mono ?_
      rintro e w' ⟨rfl, rfl⟩
      go_wp2_with fail
      refine (side_b H _ true hH).mono ?_
      rintro e w' ⟨rfl, rfl⟩
      go_wp2_with fail
      go_ret
      exact ⟨by first | rfl | rw [hdb], HB0.out⟩

/-- A plane of bytes, by places. -/
abbrev plV (W : Nat) (A : Option Addr) (n c : Nat) : Value := .agg #[.int .i64 W, .slice A n c]
theorem at_any (W n c x y : Nat) (A : Option Addr) (bs : List Int) (w : World) (HR : ReadsInt w .u8 A n bs) (has : ∀ v ∈ bs, 0 ≤ v ∧ v ≤ 255) (_ : x < W) (ht : y * W + x < n) (hn : n ≤ 300000000) : Calls Tryz.prog 21 #[plV W A n c, .int .i64 x, .int .i64 y] w fun e w' => e = .returned (.int .i64 (bs.getD (y * W + x) 0)) ∧ Below w.heap.size w w' := by
  obtain ⟨ad, rfl, hcell⟩ := HR.2.2 (by omega)
  have hb0 := (Below.refl _ w).alloc (Nat.le_refl _) (.cells #[.int .i64 (W : Int), .slice (some ad) n c] 42)
  have hc := pw_cell_below hb0 (hcell _ ht)
  obtain ⟨t, htt⟩ : ∃ t, y * W + x = t := ⟨_, rfl⟩
  rw [htt] at hc ht ⊢
  have hyW : y * W ≤ t := by omega
  have e0 : (y : Int) * (W : Int) = ((y * W : Nat) : Int) := by push_cast; rfl
  have e1 : wrap64 ((y : Int) * (W : Int)) = (y : Int) * (W : Int) := by rw [e0]; exact w64 _ (by omega) (by omega)
  have e2 : wrap64 ((y : Int) * (W : Int) + (x : Int)) = (t : Int) := by rw [e0, w64 _ (by omega) (by omega)]; omega
  have e5 : (0 : Int) ≤ (t : Int) := by omega
  have e6 : (t : Int) < (n : Int) := by omega
  have HB0 := Lib.hid hb0
  have hv := Alp.getD_255 has t
  clear hb0 hcell htt hyW e0
  generalize bs.getD t 0 = v at *
  have e7 : wrap64 v = v := w64 _ (by omega) (by omega)
  go_enter Tryz.func21, Tryz.ntmps21
  go_wp2_with fail
  go_ret
  exact ⟨rfl, HB0.out⟩

theorem gs_zero {f W t : Nat} {g : Nat → Int} (h : f = 0 ∨ t = 0) : Alp.gs f W g t = 0 := by unfold Alp.gs; rw [if_pos h]
theorem gs_top {f W t : Nat} {g : Nat → Int} (h : ¬ (f = 0 ∨ t = 0)) (h1 : t < W) : Alp.gs f W g t = g (t - 1) := by unfold Alp.gs; rw [if_neg h, if_pos h1]
theorem gs_left {f W t : Nat} {g : Nat → Int} (h : ¬ (f = 0 ∨ t = 0)) (h1 : ¬ t < W) (h2 : t % W = 0) : Alp.gs f W g t = g (t - W) := by unfold Alp.gs; rw [if_neg h, if_neg h1, if_pos h2]
theorem gs_one {W t : Nat} {g : Nat → Int} (h : ¬ ((1 : Nat) = 0 ∨ t = 0)) (h1 : ¬ t < W) (h2 : ¬ t % W = 0) : Alp.gs 1 W g t = g (t - 1) := by unfold Alp.gs; rw [if_neg h, if_neg h1, if_neg h2, if_pos rfl]
theorem gs_two {W t : Nat} {g : Nat → Int} (h : ¬ ((2 : Nat) = 0 ∨ t = 0)) (h1 : ¬ t < W) (h2 : ¬ t % W = 0) : Alp.gs 2 W g t = g (t - W) := by unfold Alp.gs; rw [if_neg h, if_neg h1, if_neg h2, if_neg (by decide), if_pos rfl]
theorem gs_three {W t : Nat} {g : Nat → Int} (h : ¬ ((3 : Nat) = 0 ∨ t = 0)) (h1 : ¬ t < W) (h2 : ¬ t % W = 0) : Alp.gs 3 W g t = Alp.cut (g (t - 1) + g (t - W) - g (t - W - 1)) := by unfold Alp.gs; rw [if_neg h, if_neg h1, if_neg h2, if_neg (by decide), if_neg (by decide)]
theorem pl_up {x y W t : Nat} (ht : y * W + x = t) (hy : 0 < y) : (y - 1) * W + x = t - W ∧ W ≤ t := by
  obtain ⟨z, rfl⟩ : ∃ z, y = z + 1 := ⟨y - 1, by omega⟩
  rw [Nat.add_mul, Nat.one_mul] at ht
  rw [Nat.add_sub_cancel]
  omega
theorem pl_mod {x y W t : Nat} (ht : y * W + x = t) (hx : x < W) : t % W = x := by
  rw [← ht, Nat.mul_comm, Nat.mul_add_mod, Nat.mod_eq_of_lt hx]
theorem pl_top {x y W t : Nat} (ht : y * W + x = t) (hx : x < W) : t < W ↔ y = 0 := by
  constructor
  · intro h
    rcases Nat.eq_zero_or_pos y with h0 | h0
    · exact h0
    · have := (pl_up ht h0).2; omega
  · intro h; subst h; omega
set_option maxHeartbeats 2000000 in
theorem guess_any (f W n c x y t : Nat) (A : Option Addr) (bs : List Int) (w : World) (HR : ReadsInt w .u8 A n bs) (has : ∀ v ∈ bs, 0 ≤ v ∧ v ≤ 255) (hx : x < W) (htt : y * W + x = t) (ht : t < n) (hn : n ≤ 300000000) (hf : f ≤ 3) :
    Calls Tryz.prog 16 #[plV W A n c, .int .i64 f, .int .i64 x, .int .i64 y] w fun e w' => e = .returned (.int .u8 (Alp.gs f W (fun j => bs.getD j 0) t)) ∧ Below w.heap.size w w' := by
  have hb0 := (Below.refl _ w).alloc (Nat.le_refl _) (.cells #[.int .i64 (W : Int), .slice A n c] 42)
  have HB0 := Lib.hid hb0
  have HR0 := Lib.hid (HR.below hb0)
  have HAS := Lib.hid has
  have hmod := pl_mod htt hx
  have htop := pl_top htt hx
  clear HR has hb0
  by_cases h0 : f = 0
  · subst h0
    rw [gs_zero (.inl rfl)]
    go_enter Tryz.func16, Tryz.ntmps16
    go_wp2_with fail
    go_ret
    exact ⟨rfl, HB0.out⟩
  have d0 : ((f : Int) == 0) = false := beq_eq_false_iff_ne.2 (by omega)
  have hA255 := fun j => Alp.getD_255 HAS.out j
  by_cases hy0 : y = 0
  · have dy : ((y : Int) == 0) = true := beq_iff_eq.2 (by omega)
    by_cases hx0 : x = 0
    · have dx : ((x : Int) == 0) = true := beq_iff_eq.2 (by omega)
      rw [gs_zero (.inr (by subst hy0; omega))]
      go_enter Tryz.func16, Tryz.ntmps16
      go_wp2_with fail
      go_ret
      exact ⟨rfl, HB0.out⟩
    · have dx : ((x : Int) == 0) = false := beq_eq_false_iff_ne.2 (by omega)
      have ht0 : t = x := by subst hy0; omega
      rw [gs_top (by omega) (htop.2 hy0)]
      obtain ⟨x1, hx1⟩ : ∃ x1, x1 + 1 = x := ⟨x - 1, by omega⟩
      have e1 : IntKind.i64.wrap ((x : Int) - 1) = (x1 : Int) := by rw [IntWalk.i64_in _ (by omega)]; omega
      have e2 : wrap64 ((x : Int) - 1) = (x1 : Int) := by rw [w64 _ (by omega) (by omega)]; omega
      have hv := hA255 (t - 1)
      have AT := Lib.hid (fun wz (h : ReadsInt wz .u8 A n bs) => at_any W n c x1 0 A bs wz h HAS.out (by omega) (by omega) hn)
      rw [show 0 * W + x1 = t - 1 by omega] at AT
      generalize bs.getD (t - 1) 0 = v at *
      have hv2 : v % 256 = v := by omega
      clear hA255 hmod htop
      go_enter Tryz.func16, Tryz.ntmps16
      go_wp2_with fail
      generalize w.alloc (.cells #[.int .i64 (W : Int), .slice A n c] 42) = w1 at *
      refine (AT.out w1 HR0.out).mono ?_
      rintro e w2 ⟨rfl, hB⟩
      have HB2 := Lib.hid (below_then HB0.out HB0.out.size hB)
      clear hB
      go_wp2_with fail
      go_ret
      exact ⟨by first | rfl | (rw [hv2]), HB2.out⟩
  · have dy : ((y : Int) == 0) = false := beq_eq_false_iff_ne.2 (by omega)
    obtain ⟨hup, hWt⟩ := pl_up htt (by omega)
    obtain ⟨y1, hy1⟩ : ∃ y1, y1 + 1 = y := ⟨y - 1, by omega⟩
    rw [show y - 1 = y1 by omega] at hup
    have htW : ¬ t < W := by omega
    have hy3 : y < 300000001 := by
      rcases Nat.lt_or_ge y 300000001 with h | h
      · exact h
      · have h2 : 300000001 * 1 ≤ y * W := Nat.mul_le_mul h (by omega)
        omega
    have f1 : IntKind.i64.wrap ((y : Int) - 1) = (y1 : Int) := by rw [IntWalk.i64_in _ (by omega)]; omega
    have f2 : wrap64 ((y : Int) - 1) = (y1 : Int) := by rw [w64 _ (by omega) (by omega)]; omega
    by_cases hx0 : x = 0
    · have dx : ((x : Int) == 0) = true := beq_iff_eq.2 (by omega)
      rw [gs_left (by omega) htW (by omega)]
      have hv := hA255 (t - W)
      have AT := Lib.hid (fun wz (h : ReadsInt wz .u8 A n bs) => at_any W n c 0 y1 A bs wz h HAS.out (by omega) (by omega) hn)
      rw [show y1 * W + 0 = t - W by omega] at AT
      generalize bs.getD (t - W) 0 = v at *
      have hv2 : v % 256 = v := by omega
      clear hA255 hmod htop
      go_enter Tryz.func16, Tryz.ntmps16
      go_wp2_with fail
      generalize w.alloc (.cells #[.int .i64 (W : Int), .slice A n c] 42) = w1 at *
      refine (AT.out w1 HR0.out).mono ?_
      rintro e w2 ⟨rfl, hB⟩
      have HB2 := Lib.hid (below_then HB0.out HB0.out.size hB)
      clear hB
      go_wp2_with fail
      go_ret
      exact ⟨by first | rfl | (rw [hv2]), HB2.out⟩
    · have dx : ((x : Int) == 0) = false := beq_eq_false_iff_ne.2 (by omega)
      obtain ⟨x1, hx1⟩ : ∃ x1, x1 + 1 = x := ⟨x - 1, by omega⟩
      have e1 : IntKind.i64.wrap ((x : Int) - 1) = (x1 : Int) := by rw [IntWalk.i64_in _ (by omega)]; omega
      have e2 : wrap64 ((x : Int) - 1) = (x1 : Int) := by rw [w64 _ (by omega) (by omega)]; omega
      have hf3 : f = 1 ∨ f = 2 ∨ f = 3 := by omega
      rcases hf3 with rfl | rfl | rfl
      · rw [gs_one (by omega) htW (by omega)]
        have hv := hA255 (t - 1)
        have AT := Lib.hid (fun wz (h : ReadsInt wz .u8 A n bs) => at_any W n c x1 y A bs wz h HAS.out (by omega) (by omega) hn)
        rw [show y * W + x1 = t - 1 by omega] at AT
        generalize bs.getD (t - 1) 0 = v at *
        have hv2 : v % 256 = v := by omega
        clear hA255 hmod htop
        go_enter Tryz.func16, Tryz.ntmps16
        go_wp2_with fail
        generalize w.alloc (.cells #[.int .i64 (W : Int), .slice A n c] 42) = w1 at *
        refine (AT.out w1 HR0.out).mono ?_
        rintro e w2 ⟨rfl, hB⟩
        have HB2 := Lib.hid (below_then HB0.out HB0.out.size hB)
        clear hB
        go_wp2_with fail
        go_ret
        exact ⟨by first | rfl | (rw [hv2]), HB2.out⟩
      · rw [gs_two (by omega) htW (by omega)]
        have hv := hA255 (t - W)
        have AT := Lib.hid (fun wz (h : ReadsInt wz .u8 A n bs) => at_any W n c x y1 A bs wz h HAS.out (by omega) (by omega) hn)
        rw [show y1 * W + x = t - W by omega] at AT
        generalize bs.getD (t - W) 0 = v at *
        have hv2 : v % 256 = v := by omega
        clear hA255 hmod htop
        go_enter Tryz.func16, Tryz.ntmps16
        go_wp2_with fail
        generalize w.alloc (.cells #[.int .i64 (W : Int), .slice A n c] 42) = w1 at *
        refine (AT.out w1 HR0.out).mono ?_
        rintro e w2 ⟨rfl, hB⟩
        have HB2 := Lib.hid (below_then HB0.out HB0.out.size hB)
        clear hB
        go_wp2_with fail
        go_ret
        exact ⟨by first | rfl | (rw [hv2]), HB2.out⟩
      · rw [gs_three (by omega) htW (by omega)]
        have hva := hA255 (t - 1)
        have hvb := hA255 (t - W)
        have hvc := hA255 (t - W - 1)
        have ea : bs.getD (y * W + x1) 0 = bs.getD (t - 1) 0 := by rw [show y * W + x1 = t - 1 by omega]
        have eb : bs.getD (y1 * W + x) 0 = bs.getD (t - W) 0 := by rw [show y1 * W + x = t - W by omega]
        have ec : bs.getD (y1 * W + x1) 0 = bs.getD (t - W - 1) 0 := by rw [show y1 * W + x1 = t - W - 1 by omega]
        generalize bs.getD (t - 1) 0 = va at *
        generalize bs.getD (t - W) 0 = vb at *
        generalize bs.getD (t - W - 1) 0 = vc at *
        have g1 : wrap64 (va + vb) = va + vb := w64 _ (by omega) (by omega)
        have g2 : wrap64 (va + vb - vc) = va + vb - vc := w64 _ (by omega) (by omega)
        have g3 : IntKind.i64.wrap (va + vb) = va + vb := IntWalk.i64_in _ (by omega)
        have g4 : IntKind.i64.wrap (va + vb - vc) = va + vb - vc := IntWalk.i64_in _ (by omega)
        have hb1 := alloc_new w #[.int .i64 (W : Int), .slice A n c] 42
        have i0 : (w.alloc (.cells #[.int .i64 (W : Int), .slice A n c] 42)).cell? ⟨w.heap.size, 0, none⟩ = some (.int .i64 W) := by rw [cell_blk hb1]; rfl
        have i1 : (w.alloc (.cells #[.int .i64 (W : Int), .slice A n c] 42)).cell? ⟨w.heap.size, 1, none⟩ = some (.slice A n c) := by rw [cell_blk hb1]; rfl
        have HC : Hid (∀ v : Int, (va + vb - vc < 0 ∧ v = 0 ∨ 255 < va + vb - vc ∧ v = 255 ∨ 0 ≤ va + vb - vc ∧ va + vb - vc ≤ 255 ∧ v = va + vb - vc) → Alp.cut (va + vb - vc) = v) := Lib.hid (show ∀ v : Int, (va + vb - vc < 0 ∧ v = 0 ∨ 255 < va + vb - vc ∧ v = 255 ∨ 0 ≤ va + vb - vc ∧ va + vb - vc ≤ 255 ∧ v = va + vb - vc) → Alp.cut (va + vb - vc) = v from fun v h => by unfold Alp.cut; split <;> (try split) <;> omega)
        clear hA255 hmod htop hb1
        go_enter Tryz.func16, Tryz.ntmps16
        go_upto_region 11 with fail
        generalize w.alloc (.cells #[.int .i64 (W : Int), .slice A n c] 42) = w1 at *
        have HRA := Lib.hid (show ∀ wz, Below w1.heap.size w1 wz → ReadsInt wz .u8 A n bs from fun wz h => HR0.out.below h)
        have HBq := Lib.hid (show Below w1.heap.size w1 w1.drew from below_drew (Below.refl _ w1))
        go_region_held3 (fun w' => w'.cell? ⟨w.heap.size, 0, none⟩ = some (.int .i64 W) ∧ w'.cell? ⟨w.heap.size, 1, none⟩ = some (.slice A n c)) ((first | exact ⟨i0, i1⟩ | exact ⟨pw_cell_below HBq.out i0, pw_cell_below HBq.out i1⟩ | fail)) ((go_at_call 21; refine (at_any W n c _ _ A bs _ (HRA.out _ HBq.out) HAS.out (by omega) (by omega) hn).mono ?_; rintro e w2 ⟨rfl, hB⟩; (first | rw [ea] | rw [eb] | rw [ec] | fail); have HBq := Lib.hid (below_then HBq.out HBq.out.size hB); clear hB))
        all_goals
          have HBz := Lib.hid (below_then HB0.out HB0.out.size HBq.out)
          clear HBq HRA
          go_wp2_with fail
          all_goals
            go_ret
            exact ⟨by first | (rw [HC.out 0 (by omega)]; rfl) | (rw [HC.out 255 (by omega)]; rfl) | (rw [HC.out (va + vb - vc) (by omega)]; rfl), HBz.out⟩
end Go.Proofs.YtodpognmkbjlmaaGreatDoor
