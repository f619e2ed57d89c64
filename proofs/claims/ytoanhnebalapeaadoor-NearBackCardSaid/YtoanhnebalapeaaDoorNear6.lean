/- The laws of layer 9. -/
import Derived.Test.YtoanhnebalapeaaDoorNear5
namespace Go.Proofs.YtoanhnebalapeaaDoor
open Go.RowKit Go.Shelf
open Go.Proofs.YtoanhnebalapeaaDoorW.PrintWords
open Nr

/-- A world behind calls that turned nothing of what lay; the table of spaces as it was laid. -/
structure NW (w W : World) : Prop where
  below : Below w.heap.size w W
  sp : Spaces W
  lt : 0 < W.heap.size
theorem NW.refl {w : World} (h : Spaces w) : NW w w := ⟨Below.refl _ _, h, World.block_lt_of_cell? w _ (h 0 (by decide))⟩
theorem NW.step {w W W' : World} (h : NW w W) (hb : Below W.heap.size W W') : NW w W' := ⟨below_then h.below h.below.size hb, h.sp.of_block (hb.block _ h.lt), Nat.lt_of_lt_of_le h.lt hb.size⟩

set_option maxHeartbeats 1000000 in
theorem answers09 (w : World) (hsp : Spaces w) : Calls Tryd.prog 9 #[] w fun e w' => e = .returned (.bool true) ∧ Below w.heap.size w w' := by
  have H1 := Lib.hid (show distS 1 10 = 10 from by kernel_rfl)
  have H2 := Lib.hid (show codeS 1 10 = 2 from by kernel_rfl)
  have HW := Lib.hid (NW.refl hsp)
  clear hsp
  go_enter Tryd.func9, Tryd.ntmps9
  go_wp2_with fail
  refine (dist_any 1 10 w HW.out.lt HW.out.sp).mono ?_
  rintro e w1 ⟨rfl, hb⟩
  rw [H1.out]
  have HW1 := Lib.hid (HW.out.step hb)
  clear hb
  go_wp2_with fail
  refine (code_any 1 10 w1 HW1.out.lt HW1.out.sp).mono ?_
  rintro e w2 ⟨rfl, hb⟩
  rw [H2.out]
  have HW2 := Lib.hid (HW1.out.step hb)
  clear hb
  go_wp2_with fail
  go_ret
  exact ⟨rfl, HW2.out.below⟩

set_option maxHeartbeats 1000000 in
theorem law_NearCodes (code dist width : Int) (w : World) (hsp : Spaces w) :
    Calls Tryd.prog 3 #[.int .i64 code, .int .i64 dist, .int .i64 width] w fun e w' => e = .returned (.bool true) ∧ Below w.heap.size w w' := by
  have HW := Lib.hid (NW.refl hsp)
  clear hsp
  obtain ⟨⟨⟨px, py⟩, ok⟩, hp⟩ : ∃ r, pointS code = r := ⟨_, rfl⟩
  have HP := Lib.hid hp
  obtain ⟨d, hd⟩ : ∃ d, distS code width = d := ⟨_, rfl⟩
  have HD := Lib.hid hd
  obtain ⟨c, hc⟩ : ∃ c, codeS dist width = c := ⟨_, rfl⟩
  have HC := Lib.hid hc
  clear hp hd hc
  go_enter Tryd.func3, Tryd.ntmps3
  go_wp2_with fail
  refine (point_any code w HW.out.lt HW.out.sp).mono ?_
  rintro e w1 ⟨rfl, hb⟩
  rw [HP.out]
  have HW1 := Lib.hid (HW.out.step hb)
  clear hb
  go_wp2_with fail
  refine (ref_Point code w1).mono ?_
  rintro e w2 ⟨rfl, hb⟩
  rw [HP.out]
  have HW2 := Lib.hid (HW1.out.step hb)
  clear hb
  go_wp2_with fail
  refine (answers09 w2 HW2.out.sp).mono ?_
  rintro e w3 ⟨rfl, hb⟩
  have HW3 := Lib.hid (HW2.out.step hb)
  clear hb
  cases ok
  all_goals
    go_wp2_with fail
    refine (dist_any code width w3 HW3.out.lt HW3.out.sp).mono ?_
    rintro e w4 ⟨rfl, hb⟩
    rw [HD.out]
    have HW4 := Lib.hid (HW3.out.step hb)
    clear hb
    go_wp2_with fail
    refine (ref_Dist code width w4).mono ?_
    rintro e w5 ⟨rfl, hb⟩
    rw [HD.out]
    have HW5 := Lib.hid (HW4.out.step hb)
    clear hb
    go_wp2_with fail
    refine (code_any dist width w5 HW5.out.lt HW5.out.sp).mono ?_
    rintro e w6 ⟨rfl, hb⟩
    rw [HC.out]
    have HW6 := Lib.hid (HW5.out.step hb)
    clear hb
    go_wp2_with fail
    refine (ref_Code dist width w6).mono ?_
    rintro e w7 ⟨rfl, hb⟩
    rw [HC.out]
    have HW7 := Lib.hid (HW6.out.step hb)
    clear hb
    go_wp2_with fail
    go_ret
    exact ⟨by simp, HW7.out.below⟩

set_option maxHeartbeats 1000000 in
theorem law_NearBack (a b x : Int) (w : World) (hsp : Spaces w) (ha : 0 ≤ a ∧ a ≤ 4294967295) (hb : 0 ≤ b ∧ b ≤ 65535) (hx : 0 ≤ x ∧ x ≤ 4294967295) :
    Calls Tryd.prog 4 #[.int .u32 a, .int .u16 b, .int .u32 x] w fun e w' => e = .returned (.bool true) ∧ Below w.heap.size w w' := by
  have HW := Lib.hid (NW.refl hsp)
  clear hsp
  obtain ⟨d, hd⟩ : ∃ d : Nat, a % 1048456 = d := Int.eq_ofNat_of_zero_le (by omega)
  obtain ⟨v, hv⟩ : ∃ v : Nat, b % 16384 = v := Int.eq_ofNat_of_zero_le (by omega)
  obtain ⟨o, ho⟩ : ∃ o : Nat, x % 1048576 = o := Int.eq_ofNat_of_zero_le (by omega)
  have hd1 : d < 1048456 := by omega
  have hv1 : v < 16384 := by omega
  have ho1 : o < 1048576 := by omega
  obtain ⟨⟨k1, k2⟩, k3, k4⟩ := near_back (d := (d : Int) + 1) (w := (v : Int) + 1) (by omega) (by omega)
  have HDD := Lib.hid hd; have HV := Lib.hid hv; have HO := Lib.hid ho
  obtain ⟨c, hc⟩ : ∃ c, codeS ((d : Int) + 1) ((v : Int) + 1) = c := ⟨_, rfl⟩
  rw [hc] at k1 k2 k3 k4
  have HC := Lib.hid hc; have H3 := Lib.hid k3
  obtain ⟨q, hq⟩ : ∃ q, distS (o : Int) ((v : Int) + 1) = q := ⟨_, rfl⟩
  have h4 := k4 (o : Int)
  rw [hq] at h4
  have HQ := Lib.hid hq
  clear hd hv ho hc k3 k4 hq
  have hk2 : decide (c ≤ 1048576) = true := by simpa using k2
  go_enter Tryd.func4, Tryd.ntmps4
  go_wp2_with fail
  rw [HDD.out, HV.out]
  refine (code_any _ _ w HW.out.lt HW.out.sp).mono ?_
  rintro e w1 ⟨rfl, hb⟩
  rw [HC.out]
  have HW1 := Lib.hid (HW.out.step hb)
  clear hb
  go_wp2_with fail
  rw [HO.out]
  refine (answers09 w1 HW1.out.sp).mono ?_
  rintro e w2 ⟨rfl, hb⟩
  have HW2 := Lib.hid (HW1.out.step hb)
  clear hb
  go_wp2_with fail
  refine (dist_any _ _ w2 HW2.out.lt HW2.out.sp).mono ?_
  rintro e w3 ⟨rfl, hb⟩
  rw [H3.out]
  have HW3 := Lib.hid (HW2.out.step hb)
  clear hb
  by_cases c1 : (o : Int) < 1
  · go_wp2_with fail
    go_ret
    exact ⟨by simp, HW3.out.below⟩
  · by_cases c2 : c ≤ (o : Int)
    · go_wp2_with fail
      go_ret
      exact ⟨by simp, HW3.out.below⟩
    · have hne : (q != (d : Int) + 1) = true := by have := h4 (by omega) (by omega); simpa using this
      clear h4
      go_wp2_with fail
      refine (dist_any _ _ w3 HW3.out.lt HW3.out.sp).mono ?_
      rintro e w4 ⟨rfl, hb⟩
      rw [HQ.out]
      have HW4 := Lib.hid (HW3.out.step hb)
      clear hb
      go_wp2_with fail
      go_ret
      exact ⟨by simp, HW4.out.below⟩

set_option maxHeartbeats 1000000 in
theorem law_NearPoints (a b : Int) (w : World) (hsp : Spaces w) (ha : 0 ≤ a ∧ a ≤ 255) (hb : 0 ≤ b ∧ b ≤ 255) :
    Calls Tryd.prog 5 #[.int .u8 a, .int .u8 b] w fun e w' => e = .returned (.bool true) ∧ Below w.heap.size w w' := by
  have HW := Lib.hid (NW.refl hsp)
  clear hsp
  obtain ⟨i, hi⟩ : ∃ i : Nat, a % 120 = i := Int.eq_ofNat_of_zero_le (by omega)
  obtain ⟨k, hk⟩ : ∃ k : Nat, b % 120 = k := Int.eq_ofNat_of_zero_le (by omega)
  have hi1 : i < 120 := by omega
  have hk1 : k < 120 := by omega
  have hiff := near_points hi1 hk1
  obtain ⟨⟨px, py⟩, _, hp, r1⟩ := point_in hi1
  obtain ⟨⟨qx, qy⟩, _, hq, r2⟩ := point_in hk1
  rw [hp, hq] at hiff
  dsimp only at hiff r1 r2
  have HI := Lib.hid hi; have HK := Lib.hid hk; have HP := Lib.hid hp; have HQ := Lib.hid hq
  obtain ⟨s1, s2, s3, s4, s5⟩ := r1
  have hor : ∀ (w4 : World), True := fun _ => trivial
  clear hi hk hp hq r2 hor
  by_cases hik : i = k
  · have hpq := hiff.2 hik
    obtain ⟨rfl, rfl⟩ := Prod.mk.inj hpq
    subst hik
    clear hiff hpq
    by_cases s6 : 0 < py
    all_goals
      go_enter Tryd.func5, Tryd.ntmps5
      go_wp2_with fail
      rw [HI.out, HK.out]
      refine (point_any _ w HW.out.lt HW.out.sp).mono ?_
      rintro e w1 ⟨rfl, hb⟩
      rw [HP.out]
      have HW1 := Lib.hid (HW.out.step hb)
      clear hb
      go_wp2_with fail
      refine (point_any _ w1 HW1.out.lt HW1.out.sp).mono ?_
      rintro e w2 ⟨rfl, hb⟩
      rw [HP.out]
      have HW2 := Lib.hid (HW1.out.step hb)
      clear hb
      go_wp2_with fail
      refine (answers09 w2 HW2.out.sp).mono ?_
      rintro e w3 ⟨rfl, hb⟩
      have HW3 := Lib.hid (HW2.out.step hb)
      clear hb
      go_wp2_with fail
      go_ret
      exact ⟨by first | rfl | (simp; omega), HW3.out.below⟩
  · have hne : ¬ (px = qx ∧ py = qy) := fun h => hik (hiff.1 (by rw [h.1, h.2]))
    have h0 : ((i : Int) + 1 == (k : Int) + 1) = false := by simp; omega
    clear hiff
    by_cases e1 : px = qx
    · have e2 : ¬ py = qy := fun h => hne ⟨e1, h⟩
      have hb1 : (px == qx) = true := by simpa using e1
      have hb2 : (py == qy) = false := by simpa using e2
      clear hne e1 e2
      by_cases s6 : 0 < py
      all_goals
        go_enter Tryd.func5, Tryd.ntmps5
        go_wp2_with fail
        rw [HI.out, HK.out]
        refine (point_any _ w HW.out.lt HW.out.sp).mono ?_
        rintro e w1 ⟨rfl, hb⟩
        rw [HP.out]
        have HW1 := Lib.hid (HW.out.step hb)
        clear hb
        go_wp2_with fail
        refine (point_any _ w1 HW1.out.lt HW1.out.sp).mono ?_
        rintro e w2 ⟨rfl, hb⟩
        rw [HQ.out]
        have HW2 := Lib.hid (HW1.out.step hb)
        clear hb
        go_wp2_with fail
        refine (answers09 w2 HW2.out.sp).mono ?_
        rintro e w3 ⟨rfl, hb⟩
        have HW3 := Lib.hid (HW2.out.step hb)
        clear hb
        go_wp2_with fail
        go_ret
        exact ⟨by first | rfl | (simp; omega), HW3.out.below⟩
    · have hb1 : (px == qx) = false := by simpa using e1
      clear hne e1
      by_cases s6 : 0 < py
      all_goals
        go_enter Tryd.func5, Tryd.ntmps5
        go_wp2_with fail
        rw [HI.out, HK.out]
        refine (point_any _ w HW.out.lt HW.out.sp).mono ?_
        rintro e w1 ⟨rfl, hb⟩
        rw [HP.out]
        have HW1 := Lib.hid (HW.out.step hb)
        clear hb
        go_wp2_with fail
        refine (point_any _ w1 HW1.out.lt HW1.out.sp).mono ?_
        rintro e w2 ⟨rfl, hb⟩
        rw [HQ.out]
        have HW2 := Lib.hid (HW1.out.step hb)
        clear hb
        go_wp2_with fail
        refine (answers09 w2 HW2.out.sp).mono ?_
        rintro e w3 ⟨rfl, hb⟩
        have HW3 := Lib.hid (HW2.out.step hb)
        clear hb
        go_wp2_with fail
        go_ret
        exact ⟨by first | rfl | (simp; omega), HW3.out.below⟩

set_option maxHeartbeats 1000000 in
theorem law_NearWide (a b x : Int) (w : World) (hsp : Spaces w) (ha : 0 ≤ a ∧ a ≤ 255) (hb : 0 ≤ b ∧ b ≤ 255) (hx : 0 ≤ x ∧ x ≤ 65535) :
    Calls Tryd.prog 6 #[.int .u8 a, .int .u8 b, .int .u16 x] w fun e w' => e = .returned (.bool true) ∧ Below w.heap.size w w' := by
  have HW := Lib.hid (NW.refl hsp)
  clear hsp
  obtain ⟨i, hi⟩ : ∃ i : Nat, a % 120 = i := Int.eq_ofNat_of_zero_le (by omega)
  obtain ⟨k, hk⟩ : ∃ k : Nat, b % 120 = k := Int.eq_ofNat_of_zero_le (by omega)
  obtain ⟨t, ht⟩ : ∃ t : Nat, x % 16000 = t := Int.eq_ofNat_of_zero_le (by omega)
  have hi1 : i < 120 := by omega
  have hk1 : k < 120 := by omega
  have ht1 : t < 16000 := by omega
  obtain ⟨m1, m2, m3⟩ := near_wide (w := 16 + (t : Int)) hi1 hk1 (by omega)
  obtain ⟨d, hd⟩ : ∃ d, distS ((i : Int) + 1) (16 + (t : Int)) = d := ⟨_, rfl⟩
  obtain ⟨f, hf⟩ : ∃ f, distS ((k : Int) + 1) (16 + (t : Int)) = f := ⟨_, rfl⟩
  rw [hd, hf] at m1
  rw [hd] at m2
  have HI := Lib.hid hi; have HK := Lib.hid hk; have HT := Lib.hid ht; have HD := Lib.hid hd; have HF := Lib.hid hf; have H2 := Lib.hid m2; have H3 := Lib.hid m3
  clear hi hk ht hd hf m2 m3
  by_cases hik : i = k
  · obtain rfl : d = f := m1.2 hik
    subst hik
    clear m1
    go_enter Tryd.func6, Tryd.ntmps6
    go_wp2_with fail
    rw [HI.out, HK.out]
    go_wp2_with fail
    rw [HT.out]
    refine (answers09 w HW.out.sp).mono ?_
    rintro e w1 ⟨rfl, hb⟩
    have HW1 := Lib.hid (HW.out.step hb)
    clear hb
    go_wp2_with fail
    refine (dist_any _ _ w1 HW1.out.lt HW1.out.sp).mono ?_
    rintro e w2 ⟨rfl, hb⟩
    rw [HD.out]
    have HW2 := Lib.hid (HW1.out.step hb)
    clear hb
    go_wp2_with fail
    refine (dist_any _ _ w2 HW2.out.lt HW2.out.sp).mono ?_
    rintro e w3 ⟨rfl, hb⟩
    rw [HD.out]
    have HW3 := Lib.hid (HW2.out.step hb)
    clear hb
    go_wp2_with fail
    refine (dist_any _ _ w3 HW3.out.lt HW3.out.sp).mono ?_
    rintro e w4 ⟨rfl, hb⟩
    rw [HD.out]
    have HW4 := Lib.hid (HW3.out.step hb)
    clear hb
    go_wp2_with fail
    refine (code_any _ _ w4 HW4.out.lt HW4.out.sp).mono ?_
    rintro e w5 ⟨rfl, hb⟩
    rw [H2.out]
    have HW5 := Lib.hid (HW4.out.step hb)
    clear hb
    go_wp2_with fail
    refine (code_any _ _ w5 HW5.out.lt HW5.out.sp).mono ?_
    rintro e w6 ⟨rfl, hb⟩
    rw [H3.out]
    have HW6 := Lib.hid (HW5.out.step hb)
    clear hb
    go_wp2_with fail
    go_ret
    exact ⟨by simp, HW6.out.below⟩
  · have hne : (d == f) = false := by simpa using fun h => hik (m1.1 h)
    have h0 : ((i : Int) + 1 == (k : Int) + 1) = false := by simp; omega
    clear m1
    go_enter Tryd.func6, Tryd.ntmps6
    go_wp2_with fail
    rw [HI.out, HK.out]
    go_wp2_with fail
    rw [HT.out]
    refine (answers09 w HW.out.sp).mono ?_
    rintro e w1 ⟨rfl, hb⟩
    have HW1 := Lib.hid (HW.out.step hb)
    clear hb
    go_wp2_with fail
    refine (dist_any _ _ w1 HW1.out.lt HW1.out.sp).mono ?_
    rintro e w2 ⟨rfl, hb⟩
    rw [HD.out]
    have HW2 := Lib.hid (HW1.out.step hb)
    clear hb
    go_wp2_with fail
    refine (dist_any _ _ w2 HW2.out.lt HW2.out.sp).mono ?_
    rintro e w3 ⟨rfl, hb⟩
    rw [HF.out]
    have HW3 := Lib.hid (HW2.out.step hb)
    clear hb
    go_wp2_with fail
    refine (dist_any _ _ w3 HW3.out.lt HW3.out.sp).mono ?_
    rintro e w4 ⟨rfl, hb⟩
    rw [HD.out]
    have HW4 := Lib.hid (HW3.out.step hb)
    clear hb
    go_wp2_with fail
    refine (code_any _ _ w4 HW4.out.lt HW4.out.sp).mono ?_
    rintro e w5 ⟨rfl, hb⟩
    rw [H2.out]
    have HW5 := Lib.hid (HW4.out.step hb)
    clear hb
    go_wp2_with fail
    refine (code_any _ _ w5 HW5.out.lt HW5.out.sp).mono ?_
    rintro e w6 ⟨rfl, hb⟩
    rw [H3.out]
    have HW6 := Lib.hid (HW5.out.step hb)
    clear hb
    go_wp2_with fail
    go_ret
    exact ⟨by simp, HW6.out.below⟩
end Go.Proofs.YtoanhnebalapeaaDoor
