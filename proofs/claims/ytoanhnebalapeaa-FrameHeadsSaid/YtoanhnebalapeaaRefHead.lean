/- What the reference's Head does; the law FrameHeads. -/
import Derived.Test.YtoanhnebalapeaaHead
namespace Go.Proofs.Ytoanhnebalapeaa
open Go.RowKit
open Go.Proofs.YtoanhnebalapeaaW.PrintWords

set_option maxHeartbeats 1000000 in
theorem refHead_any (A : Option Addr) (n c : Nat) (bs : List Int) (w : World) (HR : ReadsInt w .u8 A n bs) (hb : ∀ x ∈ bs, 0 ≤ x ∧ x ≤ 255) (hn : n ≤ 140737488351232) (hc : n ≤ c) :
    Calls Try.prog 24 #[.slice A n c] w fun e w' => e = .returned (.tuple #[.int .i64 (headS bs).1, .int .i64 (headS bs).2.1, .bool (headS bs).2.2.1, .int .i64 (headS bs).2.2.2]) ∧ Below w.heap.size w w' := by
  have hl := HR.1
  have HRR := Lib.hid HR; have HX := Lib.hid hb; have HL := Lib.hid hl
  clear hb HR hl
  by_cases h5 : n < 5
  · have hs : headS bs = (0, 0, false, 2) := by unfold headS; rw [if_pos (by have := HL.out; omega)]
    have HS := Lib.hid hs; clear hs
    go_enter Try.func24, Try.ntmps24
    go_wp2_with fail
    exact bodyPost_ret (v := .tuple #[.int .i64 0, .int .i64 0, .bool false, .int .i64 2]) (by simp [results, Try.results24, go_sem]) rfl ⟨by rw [HS.out], Below.refl _ _⟩
  · have hb0 : bs[0]?.getD 0 = bitsVal bs 0 8 := by
      rw [bitsVal_byte bs 0 8 (by omega)]
      have := HX.out (bs[0]?.getD 0) (by rw [List.getElem?_eq_getElem (by have := HL.out; omega)]; exact List.getElem_mem _)
      simp; omega
    have HB0 := Lib.hid hb0; clear hb0
    have hl5 : (bs.take 5).length = 5 := by rw [List.length_take, HL.out]; omega
    have HL5 := Lib.hid hl5; clear hl5
    obtain ⟨v0, HV0⟩ : ∃ v, Hid (bitsVal (bs.take 5) 0 8 = v) := ⟨_, rfl⟩
    obtain ⟨v1, HV1⟩ : ∃ v, Hid (bitsVal (bs.take 5) (0 + 8) 14 = v) := ⟨_, rfl⟩
    obtain ⟨v2, HV2⟩ : ∃ v, Hid (bitsVal (bs.take 5) (0 + 8 + 14) 14 = v) := ⟨_, rfl⟩
    obtain ⟨v3, HV3⟩ : ∃ v, Hid (bitsVal (bs.take 5) (0 + 8 + 14 + 14) 1 = v) := ⟨_, rfl⟩
    obtain ⟨v4, HV4⟩ : ∃ v, Hid (bitsVal (bs.take 5) (0 + 8 + 14 + 14 + 1) 3 = v) := ⟨_, rfl⟩
    have b1 : 0 ≤ v1 ∧ v1 < 16384 := by rw [← HV1.out]; exact ⟨bitsVal_nonneg _ _ _, bitsVal_lt _ _ 14⟩
    have b2 : 0 ≤ v2 ∧ v2 < 16384 := by rw [← HV2.out]; exact ⟨bitsVal_nonneg _ _ _, bitsVal_lt _ _ 14⟩
    have hs : Hid (headS bs = if v0 = 47 then (if v4 = 0 then (v1 + 1, v2 + 1, v3 == 1, 0) else (0, 0, false, 3)) else (0, 0, false, 3)) := by
      have e0 := HV0.out; have e1 := HV1.out; have e2 := HV2.out; have e3 := HV3.out; have e4 := HV4.out
      rw [bitsVal_take _ _ _ _ (by omega)] at e0 e1 e2 e3 e4
      show headS bs = _
      unfold headS
      rw [if_neg (by have := HL.out; omega), ← e0, ← e1, ← e2, ← e3, ← e4, HB0.out]
    have HX5 := Lib.hid (fun x hx => HX.out x (List.mem_of_mem_take hx) : ∀ x ∈ bs.take 5, 0 ≤ x ∧ x ≤ 255)
    have HR5 := Lib.hid (ReadsInt.take_ HRR.out 5 (by omega))
    generalize bs.take 5 = b5 at *
    go_enter Try.func24, Try.ntmps24
    go_wp2_with fail
    refine (look_any A 5 c b5 w HR5.out HX5.out (by omega)).mono ?_
    rintro e w1 ⟨g, A', rfl, hg, hA', hE, hB⟩
    have HA' := Lib.hid hA'; have HE0 := Lib.hid hE; have HB := Lib.hid hB
    clear hA' hE hB
    go_wp2_with fail
    refine (num_to v0 g A' b5 0 8 w1 HV0 (by rw [HL5.out]; omega) (by omega) (by omega) HE0.out).mono ?_
    rintro e w2 ⟨rfl, hE, hM⟩
    have HE2 := Lib.hid hE; have HM2 := Lib.hid hM; clear hE hM
    go_wp2_with fail
    refine (num_to v1 g A' b5 (0 + 8) 14 w2 HV1 (by rw [HL5.out]; omega) (by omega) (by omega) HE2.out).mono ?_
    rintro e w3 ⟨rfl, hE, hM⟩
    have HE3 := Lib.hid hE; have HM3 := Lib.hid hM; clear hE hM
    go_wp2_with fail
    refine (num_to v2 g A' b5 (0 + 8 + 14) 14 w3 HV2 (by rw [HL5.out]; omega) (by omega) (by omega) HE3.out).mono ?_
    rintro e w4 ⟨rfl, hE, hM⟩
    have HE4 := Lib.hid hE; have HM4 := Lib.hid hM; clear hE hM
    go_wp2_with fail
    refine (num_to v3 g A' b5 (0 + 8 + 14 + 14) 1 w4 HV3 (by rw [HL5.out]; omega) (by omega) (by omega) HE4.out).mono ?_
    rintro e w5 ⟨rfl, hE, hM⟩
    have HE5 := Lib.hid hE; have HM5 := Lib.hid hM; clear hE hM
    have hBB : Hid (Below w.heap.size w w5) :=
      Below.then_mods HB.out HB.out.size ((HM2.out.trans HM3.out).trans (HM4.out.trans HM5.out)) (by simp; omega)
    by_cases h0 : v0 = 47
    · have h0b : (v0 != 47) = false := by simp [h0]
      have H0 := Lib.hid h0; clear h0
      go_wp2_with fail
      refine (num_to v4 g A' b5 (0 + 8 + 14 + 14 + 1) 3 w5 HV4 (by rw [HL5.out]; omega) (by omega) (by omega) HE5.out).mono ?_
      rintro e w6 ⟨rfl, hE, hM⟩
      have HE6 := Lib.hid hE; have HM6 := Lib.hid hM; clear hE hM
      have hBB6 : Hid (Below w.heap.size w w6) := Below.then_mods hBB.out hBB.out.size HM6.out (by simp; omega)
      by_cases h4 : v4 = 0
      · have h4b : (v4 != 0) = false := by simp [h4]
        have H4 := Lib.hid h4; clear h4
        go_wp2_with fail
        exact bodyPost_ret (v := .tuple #[.int .i64 (v1 + 1), .int .i64 (v2 + 1), .bool (v3 == 1), .int .i64 0]) (by simp [results, Try.results24, go_sem]) rfl ⟨by rw [hs.out, if_pos H0.out, if_pos H4.out], hBB6.out⟩
      · have h4b : (v4 != 0) = true := by simp [h4]
        have H4 := Lib.hid h4; clear h4
        go_wp2_with fail
        exact bodyPost_ret (v := .tuple #[.int .i64 0, .int .i64 0, .bool false, .int .i64 3]) (by simp [results, Try.results24, go_sem]) rfl ⟨by rw [hs.out, if_pos H0.out, if_neg H4.out], hBB6.out⟩
    · have h0b : (v0 != 47) = true := by simp [h0]
      have H0 := Lib.hid h0; clear h0
      go_wp2_with fail
      exact bodyPost_ret (v := .tuple #[.int .i64 0, .int .i64 0, .bool false, .int .i64 3]) (by simp [results, Try.results24, go_sem]) rfl ⟨by rw [hs.out, if_neg H0.out], hBB.out⟩

set_option maxHeartbeats 400000 in
theorem answers21 (w : World) : Calls Try.prog 22 #[] w fun e w' => e = .returned (.bool true) ∧ Below w.heap.size w w' := by
  have hh : headS [47, 0, 0, 0, 16] = (1, 1, true, 0) := by decide
  have HH := Lib.hid hh; clear hh
  go_enter Try.func22, Try.ntmps22
  go_wp2_with fail
  refine (Head_any (some ⟨w.heap.size, 0, none⟩) 5 5 [47, 0, 0, 0, 16] _ (reads_lit w 5 .u8 [47, 0, 0, 0, 16] (by decide)) (by decide) (by decide) (by decide)).mono ?_
  rintro e w1 ⟨rfl, hB⟩
  have HB := Lib.hid hB; clear hB
  rw [HH.out]
  go_wp2_with fail
  go_ret
  refine ⟨rfl, ?_⟩
  exact ((Below.refl _ w).alloc (Nat.le_refl _) _).trans (HB.out.mono (by simp))

set_option maxHeartbeats 1000000 in
theorem law_FrameHeads (A : Option Addr) (n c : Nat) (bs : List Int) (w : World) (HR : ReadsInt w .u8 A n bs) (hb : ∀ x ∈ bs, 0 ≤ x ∧ x ≤ 255) (hc : n ≤ c) :
    Calls Try.prog 3 #[.slice A n c] w fun e w' => e = .returned (.bool true) ∧ Below w.heap.size w w' := by
  have HRR := Lib.hid HR; have HX := Lib.hid hb
  clear HR hb
  by_cases hn : 100 < n
  · go_enter Try.func3, Try.ntmps3
    go_wp2_with (go_at_call 22; refine (answers21 _).mono ?_; rintro e w1 ⟨rfl, hB⟩)
    go_ret
    exact ⟨rfl, hB⟩
  · obtain ⟨v1, H1⟩ : ∃ v, Hid ((headS bs).1 = v) := ⟨_, rfl⟩
    obtain ⟨v2, H2⟩ : ∃ v, Hid ((headS bs).2.1 = v) := ⟨_, rfl⟩
    obtain ⟨v3, H3⟩ : ∃ v, Hid ((headS bs).2.2.1 = v) := ⟨_, rfl⟩
    obtain ⟨v4, H4⟩ : ∃ v, Hid ((headS bs).2.2.2 = v) := ⟨_, rfl⟩
    go_enter Try.func3, Try.ntmps3
    go_wp2_with fail
    refine (Head_any A n c bs w HRR.out HX.out (by omega) hc).mono ?_
    rintro e w1 ⟨rfl, hB⟩
    have HB := Lib.hid hB; clear hB
    rw [H1.out, H2.out, H3.out, H4.out]
    go_wp2_with fail
    refine (refHead_any A n c bs w1 (HRR.out.below HB.out) HX.out (by omega) hc).mono ?_
    rintro e w2 ⟨rfl, hB⟩
    have HB2 := Lib.hid hB; clear hB
    rw [H1.out, H2.out, H3.out, H4.out]
    have hB2 : Hid (Below w.heap.size w w2) := below_then HB.out HB.out.size HB2.out
    go_wp2_with fail
    refine (answers21 _).mono ?_
    rintro e w3 ⟨rfl, hB⟩
    have HB3 : Hid (Below w.heap.size w w3) := below_then hB2.out hB2.out.size hB
    clear hB
    go_wp2_with fail
    go_ret
    exact ⟨rfl, HB3.out⟩
end Go.Proofs.Ytoanhnebalapeaa
