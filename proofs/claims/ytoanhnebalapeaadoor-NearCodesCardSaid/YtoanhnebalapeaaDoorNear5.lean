/- What the reference's Point, Dist and Code tell. -/
import Derived.Test.YtoanhnebalapeaaDoorNear4
import Derived.Great.BuildSlice
namespace Go.Proofs.YtoanhnebalapeaaDoor
open Go.RowKit Go.Shelf
open Go.Proofs.YtoanhnebalapeaaDoorW.PrintWords
open Nr

set_option maxRecDepth 100000 in
set_option maxHeartbeats 4000000 in
theorem ref_points (w : World) : Calls Tryd.prog 15 #[] w fun e w' => e = .returned (.slice (some ⟨w.heap.size, 0, none⟩) 240 240) ∧ w' = w.alloc (.cells (nums.map (Value.int .i64)).toArray 3) := by
  go_enter Tryd.func15, Tryd.ntmps15
  go_wp2_with (refine wpList_buildFlat rfl 37 3 240 _ rfl .i64 nums Tryd.underlying37 (by kernel_rfl) (by kernel_rfl) (by kernel_rfl) (by decide) (by decide) (by kernel_rfl) ?_)
  go_ret
  exact ⟨rfl, rfl⟩
theorem nums_reads (w : World) : ReadsInt (w.alloc (.cells (Nr.nums.map (Value.int .i64)).toArray 3)) .i64 (some ⟨w.heap.size, 0, none⟩) 240 Nr.nums := by
  have := reads_lit w 3 .i64 Nr.nums (by rw [Nr.nums_length]; decide)
  rw [Nr.nums_length] at this
  exact this
theorem two_get {α : Type} : ∀ (l : List α) (i : Nat) (p : α × α), (two l)[i]? = some p → l[2 * i]? = some p.1 ∧ l[2 * i + 1]? = some p.2
  | [], i, p, h => by simp [two] at h
  | [a], i, p, h => by simp [two] at h
  | a :: b :: t, 0, p, h => by simp [two] at h; subst h; simp
  | a :: b :: t, i + 1, p, h => by
    have := two_get t i p (by simpa [two] using h)
    rw [show 2 * (i + 1) = 2 * i + 1 + 1 from by omega, show 2 * i + 1 + 1 + 1 = (2 * i + 1) + 1 + 1 from by omega]
    simpa using this
/-- Where the points stand. -/
theorem nums_at {i : Nat} {p : Int × Int} (h : points[i]? = some p) : rd Nr.nums (2 * (i : Int)) = p.1 ∧ rd Nr.nums (2 * (i : Int) + 1) = p.2 := by
  rw [← two_nums] at h
  obtain ⟨h1, h2⟩ := two_get _ _ _ h
  constructor
  · unfold rd; rw [show (2 * (i : Int)).toNat = 2 * i from by omega, List.getD_eq_getElem?_getD, h1]; rfl
  · unfold rd; rw [show (2 * (i : Int) + 1).toNat = 2 * i + 1 from by omega, List.getD_eq_getElem?_getD, h2]; rfl

set_option maxHeartbeats 1000000 in
theorem ref_Point (code : Int) (w : World) :
    Calls Tryd.prog 8 #[.int .i64 code] w fun e w' => e = .returned (.tuple #[.int .i64 (pointS code).1.1, .int .i64 (pointS code).1.2, .bool (pointS code).2]) ∧ Below w.heap.size w w' := by
  have hb1 : Below w.heap.size w (w.alloc (.cells (Nr.nums.map (Value.int .i64)).toArray 3)) := (Below.refl _ w).alloc (Nat.le_refl _) _
  have HB1 := Lib.hid hb1
  have hr := nums_reads w
  by_cases hc : 1 ≤ code ∧ code ≤ 120
  · obtain ⟨j, rfl⟩ : ∃ j : Nat, code = (j : Int) + 1 := ⟨(code - 1).toNat, by omega⟩
    have hj : j < 120 := by omega
    obtain ⟨p, hp, he, _⟩ := point_in hj
    obtain ⟨n1, n2⟩ := nums_at hp
    obtain ⟨ad, hA, hc1⟩ := hr.at_ (2 * (j : Int)) (by omega) (by omega)
    obtain ⟨ad2, hA2, hc2⟩ := hr.at_ (2 * (j : Int) + 1) (by omega) (by omega)
    cases hA; cases hA2
    rw [n1] at hc1; rw [n2] at hc2
    rw [show (2 * (j : Int)).toNat = 2 * j from by omega, add_plain] at hc1
    rw [show (2 * (j : Int) + 1).toNat = 2 * j + 1 from by omega, add_plain] at hc2
    have HE := Lib.hid he
    have hk1 : decide ((j : Int) + 1 < 1) = false := by simp; omega
    have hk2 : decide (120 < (j : Int) + 1) = false := by simp; omega
    clear hr hb1 he n1 n2 hp hc
    go_enter Tryd.func8, Tryd.ntmps8
    go_wp2_with fail
    refine (ref_points w).mono ?_
    rintro e w' ⟨rfl, rfl⟩
    generalize w.alloc (.cells (Nr.nums.map (Value.int .i64)).toArray 3) = w1 at *
    go_wp2_with fail
    have hw1 : IntKind.i64.wrap (2 * ((j : Int) + 1)) = 2 * ((j : Int) + 1) := by rw [IntWalk.i64_in _ (by omega)]
    have hw2 : IntKind.i64.wrap (2 * ((j : Int) + 1) - 2) = 2 * (j : Int) := by rw [IntWalk.i64_in _ (by omega)]; omega
    have hw3 : IntKind.i64.wrap (2 * ((j : Int) + 1) - 1) = 2 * (j : Int) + 1 := by rw [IntWalk.i64_in _ (by omega)]; omega
    have hi1 : (0 : Int) ≤ 2 * (j : Int) := by omega
    have hi2 : 2 * (j : Int) < 240 := by omega
    have hi3 : (0 : Int) ≤ 2 * (j : Int) + 1 := by omega
    have hi4 : 2 * (j : Int) + 1 < 240 := by omega
    have hi5 : (2 * (j : Int)).toNat = 2 * j := by omega
    have hi6 : (2 * (j : Int) + 1).toNat = 2 * j + 1 := by omega
    go_quiet (fail)
    clear hw1 hw2 hw3 hi5 hi6
    go_wp2_with fail
    go_ret3
    exact ⟨by rw [HE.out]; rfl, pw_below_drewN HB1.out nq⟩
  · have hps : pointS code = ((0, 0), false) := by unfold pointS; exact if_neg hc
    have HP := Lib.hid hps
    clear hr hb1 hps
    by_cases h1 : code < 1
    all_goals
      go_enter Tryd.func8, Tryd.ntmps8
      go_wp2_with fail
      refine (ref_points w).mono ?_
      rintro e w' ⟨rfl, rfl⟩
      generalize w.alloc (.cells (Nr.nums.map (Value.int .i64)).toArray 3) = w1 at *
      go_wp2_with fail
      go_ret3
      exact ⟨by rw [HP.out]; rfl, HB1.out⟩

set_option maxHeartbeats 1000000 in
theorem ref_Dist (code width : Int) (w : World) :
    Calls Tryd.prog 11 #[.int .i64 code, .int .i64 width] w fun e w' => e = .returned (.int .i64 (distS code width)) ∧ Below w.heap.size w w' := by
  by_cases hw : 1 ≤ width ∧ width ≤ 16384
  · by_cases hc : 1 ≤ code ∧ code ≤ 1048576
    · obtain ⟨h1, h2⟩ := hc
      have hk1 : decide (code < 1) = false := by simp; omega
      have hk2 : decide (1048576 < code) = false := by simp; omega
      have hk3 : decide (width < 1) = false := by simp; omega
      have hk4 : decide (16384 < width) = false := by simp; omega
      have HB := Lib.hid (point_bounds code)
      obtain ⟨⟨⟨dx, dy⟩, ok⟩, hp⟩ : ∃ r, pointS code = r := ⟨_, rfl⟩
      have HP := Lib.hid hp
      clear hp
      by_cases hle : code ≤ 120
      · have HD := Lib.hid (show distS code width = farS (dx, dy) width from by unfold distS; rw [if_pos ⟨hw.1, hw.2, h1, h2⟩, if_pos hle, HP.out])
        obtain rfl : ok = true := by have := HP.out; unfold pointS at this; rw [if_pos ⟨h1, hle⟩] at this; exact (Prod.mk.inj this).2.symm
        have hbd := HB.out
        rw [HP.out] at hbd
        dsimp only at hbd
        have hm1 : dy * width ≤ 8 * width := Int.mul_le_mul_of_nonneg_right hbd.2.2 (by omega)
        have hm2 : -8 * width ≤ dy * width := Int.mul_le_mul_of_nonneg_right hbd.2.1 (by omega)
        by_cases hlt : dx + dy * width < 1
        · have HF := Lib.hid (show farS (dx, dy) width = 1 from by unfold farS; exact if_neg (by dsimp only; omega))
          go_enter Tryd.func11, Tryd.ntmps11
          go_wp2_with fail
          refine (ref_Point code w).mono ?_
          rintro e w1 ⟨rfl, hb⟩
          rw [HP.out]
          have HB1 := Lib.hid hb
          clear hb
          go_wp2_with fail
          go_ret
          exact ⟨by rw [HD.out, HF.out]; rfl, HB1.out⟩
        · have HF := Lib.hid (show farS (dx, dy) width = dx + dy * width from by unfold farS; exact if_pos (by dsimp only; omega))
          go_enter Tryd.func11, Tryd.ntmps11
          go_wp2_with fail
          refine (ref_Point code w).mono ?_
          rintro e w1 ⟨rfl, hb⟩
          rw [HP.out]
          have HB1 := Lib.hid hb
          clear hb
          go_wp2_with fail
          go_ret
          exact ⟨by rw [HD.out, HF.out]; rfl, HB1.out⟩
      · have HD := Lib.hid (show distS code width = code - 120 from by unfold distS; rw [if_pos ⟨hw.1, hw.2, h1, h2⟩, if_neg hle])
        obtain rfl : ok = false := by have := HP.out; unfold pointS at this; rw [if_neg (by omega)] at this; exact (Prod.mk.inj this).2.symm
        go_enter Tryd.func11, Tryd.ntmps11
        go_wp2_with fail
        refine (ref_Point code w).mono ?_
        rintro e w1 ⟨rfl, hb⟩
        rw [HP.out]
        have HB1 := Lib.hid hb
        clear hb
        go_wp2_with fail
        go_ret
        exact ⟨by rw [HD.out]; rfl, HB1.out⟩
    · have HD := Lib.hid (show distS code width = 0 from by unfold distS; rw [if_neg (fun h => hc ⟨h.2.2.1, h.2.2.2⟩)])
      have hk3 : decide (width < 1) = false := by simp; omega
      have hk4 : decide (16384 < width) = false := by simp; omega
      by_cases h1 : code < 1
      all_goals
        go_enter Tryd.func11, Tryd.ntmps11
        go_wp2_with fail
        go_ret
        exact ⟨by rw [HD.out]; rfl, Below.refl _ _⟩
  · have HD := Lib.hid (show distS code width = 0 from by unfold distS; rw [if_neg (fun h => hw ⟨h.1, h.2.1⟩)])
    by_cases h1 : width < 1
    all_goals
      go_enter Tryd.func11, Tryd.ntmps11
      go_wp2_with fail
      go_ret
      exact ⟨by rw [HD.out]; rfl, Below.refl _ _⟩

set_option maxHeartbeats 2000000 in
theorem ref_Code (dist width : Int) (w : World) :
    Calls Tryd.prog 13 #[.int .i64 dist, .int .i64 width] w fun e w' => e = .returned (.int .i64 (codeS dist width)) ∧ Below w.heap.size w w' := by
  by_cases hw : 1 ≤ width ∧ width ≤ 16384
  · by_cases hc : 1 ≤ dist ∧ dist ≤ 1048456
    · obtain ⟨h1, h2⟩ := hc
      have hk1 : decide (dist < 1) = false := by simp; omega
      have hk2 : decide (1048456 < dist) = false := by simp; omega
      have hk3 : decide (width < 1) = false := by simp; omega
      have hk4 : decide (16384 < width) = false := by simp; omega
      have HC := Lib.hid (show codeS dist width = firstS dist width from by unfold codeS; exact if_pos ⟨hw.1, hw.2, h1, h2⟩)
      have hb1 : Below w.heap.size w (w.alloc (.cells (Nr.nums.map (Value.int .i64)).toArray 3)) := (Below.refl _ w).alloc (Nat.le_refl _) _
      have HB1 := Lib.hid hb1
      have HR := Lib.hid (nums_reads w)
      clear hb1
      go_enter Tryd.func13, Tryd.ntmps13
      go_wp2_with fail
      refine (ref_points w).mono ?_
      rintro e w' ⟨rfl, rfl⟩
      generalize w.alloc (.cells (Nr.nums.map (Value.int .i64)).toArray 3) = w1 at *
      go_wp2_with fail
      go_loopw [6] (fun i wr => ∃ k : Nat, k ≤ 120 ∧ i = .int .i64 ((k : Int) + 1) ∧ Hid (∀ (j : Nat) q, j < k → points[j]? = some q → farS q width ≠ dist) ∧ Hid (∃ q, wr = w1.drewN q)) (fun i _ => 121 - (intOf i).toNat)
      case atStart => exact ⟨0, by omega, rfl, by (intro j q h; omega), 0, rfl⟩
      case round =>
        obtain ⟨j, hj, rfl, HN, HQ⟩ := hrel
        by_cases hlt : j < 120
        · obtain ⟨p, hp, he, hr⟩ := point_in hlt
          obtain ⟨n1, n2⟩ := nums_at hp
          obtain ⟨ad, hA, hc1⟩ := HR.out.at_ (2 * (j : Int)) (by omega) (by omega)
          obtain ⟨ad2, hA2, hc2⟩ := HR.out.at_ (2 * (j : Int) + 1) (by omega) (by omega)
          cases hA; cases hA2
          rw [n1] at hc1; rw [n2] at hc2
          rw [show (2 * (j : Int)).toNat = 2 * j from by omega, add_plain] at hc1
          rw [show (2 * (j : Int) + 1).toNat = 2 * j + 1 from by omega, add_plain] at hc2
          have HPP := Lib.hid hp
          obtain ⟨q, hq⟩ := HQ.out
          subst hq
          have hm1 : p.2 * width ≤ 7 * width := Int.mul_le_mul_of_nonneg_right hr.2.2.2.1 (by omega)
          have hm2 : 0 * width ≤ p.2 * width := Int.mul_le_mul_of_nonneg_right hr.2.2.1 (by omega)
          have HNX := Lib.hid (show farS p width ≠ dist → ∀ (i : Nat) q, i < j + 1 → points[i]? = some q → farS q width ≠ dist from fun hf i q hi hq => by
            by_cases e : i = j
            · subst e; rw [HPP.out] at hq; cases hq; exact hf
            · exact HN.out i q (by omega) hq)
          obtain ⟨px, py⟩ := p
          dsimp only at hc1 hc2 hm1 hm2 hr
          have HF := Lib.hid (show farS (px, py) width = if 1 ≤ px + py * width then px + py * width else 1 from rfl)
          rw [Int.zero_mul] at hm2
          have hpx1 : -7 ≤ px := hr.1
          have hpx2 : px ≤ 8 := hr.2.1
          clear hp he n1 n2 HQ hr
          have hj1 : (j : Int) + 1 ≤ 120 := by omega
          go_wp2_with fail
          have hw0 : IntKind.i64.wrap ((j : Int) + 1) = (j : Int) + 1 := by rw [IntWalk.i64_in _ (by omega)]
          have hw1 : IntKind.i64.wrap (2 * ((j : Int) + 1)) = 2 * ((j : Int) + 1) := by rw [IntWalk.i64_in _ (by omega)]
          have hw2 : IntKind.i64.wrap (2 * ((j : Int) + 1) - 2) = 2 * (j : Int) := by rw [IntWalk.i64_in _ (by omega)]; omega
          have hw3 : IntKind.i64.wrap (2 * ((j : Int) + 1) - 1) = 2 * (j : Int) + 1 := by rw [IntWalk.i64_in _ (by omega)]; omega
          have hw4 : IntKind.i64.wrap (py * width) = py * width := by rw [IntWalk.i64_in _ (by omega)]
          have hw5 : IntKind.i64.wrap (px + py * width) = px + py * width := by rw [IntWalk.i64_in _ (by omega)]
          have hi1 : (0 : Int) ≤ 2 * (j : Int) := by omega
          have hi2 : 2 * (j : Int) < 240 := by omega
          have hi3 : (0 : Int) ≤ 2 * (j : Int) + 1 := by omega
          have hi4 : 2 * (j : Int) + 1 < 240 := by omega
          have hi5 : (2 * (j : Int)).toNat = 2 * j := by omega
          have hi6 : (2 * (j : Int) + 1).toNat = 2 * j + 1 := by omega
          go_quiet (fail)
          clear hw0 hw1 hw2 hw3 hw4 hw5 hi5 hi6
          by_cases hsm : px + py * width < 1
          · have HF1 := Lib.hid (show farS (px, py) width = 1 from by rw [HF.out]; exact if_neg (by omega))
            by_cases hd : dist = 1
            · have hcb : ((1 : Int) == dist) = true := by simp [hd]
              have HD := Lib.hid hd
              clear hd
              go_wp2_with fail
              go_ret
              exact ⟨by rw [HC.out, first_near HPP.out (by rw [HF1.out, HD.out]) HN.out]; rfl, pw_below_drewN HB1.out _⟩
            · have hcb : ((1 : Int) == dist) = false := by simp; omega
              have HD := Lib.hid hd
              clear hd
              go_wp2_with fail
              go_roundw
              case rel => exact ⟨j + 1, by omega, by go_num, HNX.out (by rw [HF1.out]; have := HD.out; omega), by exact ⟨q + nq, rfl⟩⟩
              case measure => simp [intOf]; omega
          · have HF1 := Lib.hid (show farS (px, py) width = px + py * width from by rw [HF.out]; exact if_pos (by omega))
            by_cases hd : px + py * width = dist
            · have hcb : (px + py * width == dist) = true := by simp [hd]
              have HD := Lib.hid hd
              clear hd
              go_wp2_with fail
              go_ret
              exact ⟨by rw [HC.out, first_near HPP.out (by rw [HF1.out, HD.out]) HN.out]; rfl, pw_below_drewN HB1.out _⟩
            · have hcb : (px + py * width == dist) = false := by simp [hd]
              have HD := Lib.hid hd
              clear hd
              go_wp2_with fail
              go_roundw
              case rel => exact ⟨j + 1, by omega, by go_num, HNX.out (by rw [HF1.out]; exact HD.out), by exact ⟨q + nq, rfl⟩⟩
              case measure => simp [intOf]; omega
        · obtain rfl : j = 120 := by omega
          obtain ⟨q, hq⟩ := HQ.out
          subst hq
          clear HQ
          go_wp2_with fail
          go_ret
          exact ⟨by
            rw [HC.out, first_none]
            · rfl
            · intro x hx
              obtain ⟨i, hi⟩ := List.getElem?_of_mem hx
              exact HN.out i x (by have := (List.getElem?_eq_some_iff.1 hi).1; rw [points_length] at this; exact this) hi, pw_below_drewN HB1.out _⟩
    · have HD := Lib.hid (show codeS dist width = 0 from by unfold codeS; rw [if_neg (fun h => hc ⟨h.2.2.1, h.2.2.2⟩)])
      have hk3 : decide (width < 1) = false := by simp; omega
      have hk4 : decide (16384 < width) = false := by simp; omega
      by_cases h1 : dist < 1
      all_goals
        go_enter Tryd.func13, Tryd.ntmps13
        go_wp2_with fail
        go_ret
        exact ⟨by rw [HD.out]; rfl, Below.refl _ _⟩
  · have HD := Lib.hid (show codeS dist width = 0 from by unfold codeS; rw [if_neg (fun h => hw ⟨h.1, h.2.1⟩)])
    by_cases h1 : width < 1
    all_goals
      go_enter Tryd.func13, Tryd.ntmps13
      go_wp2_with fail
      go_ret
      exact ⟨by rw [HD.out]; rfl, Below.refl _ _⟩
end Go.Proofs.YtoanhnebalapeaaDoor
