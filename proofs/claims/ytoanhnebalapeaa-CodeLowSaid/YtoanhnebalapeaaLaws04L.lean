/- The law CodeLow. -/
import Derived.Test.YtoanhnebalapeaaLaws04
import Derived.Test.YtoanhnebalapeaaCodeP4
import Derived.Test.YtoanhnebalapeaaBitin
namespace Go.Proofs.Ytoanhnebalapeaa
open Go.RowKit
open Go.Proofs.YtoanhnebalapeaaW.PrintWords
open Srt

set_option maxHeartbeats 1000000 in
theorem law_CodeLow (A : Option Addr) (n c : Nat) (ls : List Int) (w : World) (HR : ReadsInt w .i64 A n ls) (hc : n ≤ c) :
    Calls Try.prog 7 #[.slice A n c] w fun e w' => e = .returned (.bool true) ∧ Below w.heap.size w w' := by
  have HRR := Lib.hid HR; have HL := Lib.hid HR.1
  clear HR
  by_cases hn : 300 < n
  · go_enter Try.func7, Try.ntmps7
    go_wp2_with (go_at_call 25; refine (answers04 _).mono ?_; rintro e w1 ⟨rfl, hB⟩)
    go_ret
    exact ⟨rfl, hB⟩
  · by_cases hz : checkS ls = 0
    · have hzb : (checkS ls != 0) = false := by simp [hz]
      have HZ := Lib.hid hz
      clear hz
      obtain ⟨x, HX⟩ : ∃ v, Hid ((oneS ls).1 = v) := ⟨_, rfl⟩
      obtain ⟨y, HY⟩ : ∃ v, Hid ((oneS ls).2 = v) := ⟨_, rfl⟩
      go_enter Try.func7, Try.ntmps7
      go_wp2_with (first | (go_at_call 26; refine (one_any A n c ls w HRR.out (by omega) hc).mono ?_; rintro e w' ⟨rfl, rfl⟩; rw [HX.out, HY.out]) | (go_at_call 30; refine (refCheck_any A n c ls w HRR.out (by omega)).mono ?_; rintro e w' ⟨rfl, rfl⟩))
      refine (codes_any A n c ls w HRR.out (by omega)).mono ?_
      rintro e w2 ⟨hB2, v, rfl, _, h⟩
      have hO := h HZ.out
      rw [HL.out] at hO
      obtain ⟨A2, c2, rfl, hR2⟩ := own_reads hO
      have HR2 := Lib.hid hR2
      have HB2 := Lib.hid hB2
      clear hO hR2 hB2 h
      go_wp2_with fail
      have hL0 := HL.out
      have hloop := low_one HZ.out
      go_loopw [6, 7, 8] (fun l h i wr => ∃ k : Nat, k ≤ n ∧ i = .int .i64 k ∧ l = .int .i64 (cnt (isLow ls) k : Nat) ∧ h = .int .i64 (cnt (isHigh ls) k : Nat) ∧ Hid (∃ q, wr = w2.drewN q)) (fun _ _ i _ => n - (intOf i).toNat)
      case atStart => exact ⟨0, by omega, rfl, rfl, rfl, 0, rfl⟩
      case round =>
        obtain ⟨k, hk, rfl, rfl, rfl, HQ⟩ := hrel
        have hcl := cnt_le (isLow ls) k
        have hch := cnt_le (isHigh ls) k
        by_cases hlt : k < n
        · have hq1 : ReadsInt wr .i64 A n ls := by obtain ⟨q, hq⟩ := HQ.out; rw [hq]; exact (HRR.out.below HB2.out).drewN q
          have hq2 : ReadsInt wr .u32 A2 n (codesS ls) := by obtain ⟨q, hq⟩ := HQ.out; rw [hq]; exact HR2.out.drewN q
          obtain ⟨ad, hA, hcell0⟩ := ReadsInt.at_ hq1 (k : Int) (by omega) (by omega)
          rw [Int.toNat_natCast, rd_ln] at hcell0
          obtain ⟨bd, hBd, hcell1⟩ := ReadsInt.at_ hq2 (k : Int) (by omega) (by omega)
          rw [Int.toNat_natCast] at hcell1
          obtain ⟨z, hz⟩ : ∃ z, z = rd (codesS ls) (k : Int) := ⟨_, rfl⟩
          rw [← hz] at hcell1
          have hkl : k < ls.length := by omega
          have hz1 : 0 < ln ls k → z = codeS ls k := fun h => by
            rw [hz]; unfold rd
            rw [Int.toNat_natCast, List.getD_eq_getElem?_getD, codesS_get _ _ hkl, if_pos h]; rfl
          obtain ⟨hl0, hl1⟩ := (complete HZ.out).1 k
          have hcl0 := fun h => code_lt HZ.out hkl h
          clear hz hq1 hq2
          subst hA
          subst hBd
          have hki : (k : Int) < (n : Int) := by omega
          have hkt : ((k : Int)).toNat = k := by omega
          by_cases hp : 0 < ln ls k
          · have hp1 : decide (0 < ln ls k) = true := by simp [hp]
            have hz2 := hz1 hp
            have HZ2 := Lib.hid hz2
            obtain ⟨h1, h2⟩ := hcl0 hp
            have hpw : (2 : Int) ^ (ln ls k).toNat ≤ 2 ^ 15 := by exact_mod_cast Nat.pow_le_pow_right (by decide) (by omega)
            rw [← hz2] at h1 h2
            have HP := Lib.hid hp
            clear hcl0 hz1 hz2
            have hw : IntKind.u64.wrap (IntKind.u64.wrap (2 ^ (ln ls k).toNat) - 1) = 2 ^ (ln ls k).toNat - 1 := by rw [wrap_u64_in (2 ^ (ln ls k).toNat) (by omega) (by omega), wrap_u64_in _ (by omega) (by omega)]
            have hwz : IntKind.u64.wrap z = z := wrap_u64_in z (by omega) (by omega)
            by_cases he : z = 0
            · by_cases hf : z = 2 ^ (ln ls k).toNat - 1
              · have HLW := Lib.hid (cnt_hit (isLow ls) k (by unfold isLow; simp [HP.out, ← HZ2.out, he]))
                have HHI := Lib.hid (cnt_hit (isHigh ls) k (by unfold isHigh; simp [HP.out, ← HZ2.out, hf]))
                have he1 : (z == 0) = true := by simp [he]
                have hf1 : (z == 2 ^ (ln ls k).toNat - 1) = true := by simp [hf]
                have HW := Lib.hid hw; have HWZ := Lib.hid hwz
                clear he hf hw hwz hp h1 h2 hpw
                go_wp2_with fail
                go_quiet (fail)
                rw [HW.out, HWZ.out, hf1]
                go_wp2_with fail
                go_roundw
                case rel =>
                  obtain ⟨q, hq⟩ := HQ.out
                  exact ⟨k + 1, by omega, by go_num, by rw [HLW.out]; all_goals go_num, by rw [HHI.out]; all_goals go_num, _, by rw [hq, World.drewN_drewN]⟩
                case measure => simp [intOf]; omega
              · have HLW := Lib.hid (cnt_hit (isLow ls) k (by unfold isLow; simp [HP.out, ← HZ2.out, he]))
                have HHI := Lib.hid (cnt_miss (isHigh ls) k (by unfold isHigh; simp [HP.out, ← HZ2.out, hf]))
                have he1 : (z == 0) = true := by simp [he]
                have hf1 : (z == 2 ^ (ln ls k).toNat - 1) = false := by simp [hf]
                have HW := Lib.hid hw; have HWZ := Lib.hid hwz
                clear he hf hw hwz hp h1 h2 hpw
                go_wp2_with fail
                go_quiet (fail)
                rw [HW.out, HWZ.out, hf1]
                go_wp2_with fail
                go_roundw
                case rel =>
                  obtain ⟨q, hq⟩ := HQ.out
                  exact ⟨k + 1, by omega, by go_num, by rw [HLW.out]; all_goals go_num, by rw [HHI.out]; all_goals go_num, _, by rw [hq, World.drewN_drewN]⟩
                case measure => simp [intOf]; omega
            · by_cases hf : z = 2 ^ (ln ls k).toNat - 1
              · have HLW := Lib.hid (cnt_miss (isLow ls) k (by unfold isLow; simp [HP.out, ← HZ2.out, he]))
                have HHI := Lib.hid (cnt_hit (isHigh ls) k (by unfold isHigh; simp [HP.out, ← HZ2.out, hf]))
                have he1 : (z == 0) = false := by simp [he]
                have hf1 : (z == 2 ^ (ln ls k).toNat - 1) = true := by simp [hf]
                have HW := Lib.hid hw; have HWZ := Lib.hid hwz
                clear he hf hw hwz hp h1 h2 hpw
                go_wp2_with fail
                go_quiet (fail)
                rw [HW.out, HWZ.out, hf1]
                go_wp2_with fail
                go_roundw
                case rel =>
                  obtain ⟨q, hq⟩ := HQ.out
                  exact ⟨k + 1, by omega, by go_num, by rw [HLW.out]; all_goals go_num, by rw [HHI.out]; all_goals go_num, _, by rw [hq, World.drewN_drewN]⟩
                case measure => simp [intOf]; omega
              · have HLW := Lib.hid (cnt_miss (isLow ls) k (by unfold isLow; simp [HP.out, ← HZ2.out, he]))
                have HHI := Lib.hid (cnt_miss (isHigh ls) k (by unfold isHigh; simp [HP.out, ← HZ2.out, hf]))
                have he1 : (z == 0) = false := by simp [he]
                have hf1 : (z == 2 ^ (ln ls k).toNat - 1) = false := by simp [hf]
                have HW := Lib.hid hw; have HWZ := Lib.hid hwz
                clear he hf hw hwz hp h1 h2 hpw
                go_wp2_with fail
                go_quiet (fail)
                rw [HW.out, HWZ.out, hf1]
                go_wp2_with fail
                go_roundw
                case rel =>
                  obtain ⟨q, hq⟩ := HQ.out
                  exact ⟨k + 1, by omega, by go_num, by rw [HLW.out]; all_goals go_num, by rw [HHI.out]; all_goals go_num, _, by rw [hq, World.drewN_drewN]⟩
                case measure => simp [intOf]; omega
          · have hp1 : decide (0 < ln ls k) = false := by simp; omega
            have HLW := Lib.hid (cnt_miss (isLow ls) k (by unfold isLow; simp [hp]))
            have HHI := Lib.hid (cnt_miss (isHigh ls) k (by unfold isHigh; simp [hp]))
            clear hp hz1 hcl0
            go_wp2_with fail
            go_quiet (fail)
            go_wp2_with fail
            go_roundw
            case rel =>
              obtain ⟨q, hq⟩ := HQ.out
              exact ⟨k + 1, by omega, by go_num, by rw [HLW.out], by rw [HHI.out], _, by rw [hq, World.drewN_drewN]⟩
            case measure => simp [intOf]; omega
        · have hbf : Hid (Below w.heap.size w wr) := by obtain ⟨q, hq⟩ := HQ.out; show Below _ _ _; rw [hq]; exact pw_below_drewN HB2.out q
          obtain rfl : k = ls.length := by omega
          have hyy : y = false → cnt (isHigh ls) ls.length = 1 := fun h => by
            refine high_one HZ.out ?_
            have h1 := one_many (ls := ls) (fun t => ((complete HZ.out).1 t).1)
            rcases (complete HZ.out).2.1 with h2 | h2
            · exfalso
              have := h1.2 h2
              rw [HY.out, h] at this
              exact absurd this (by decide)
            · exact h2
          rw [hloop]
          generalize cnt (isHigh ls) ls.length = hh at *
          cases y
          · have hh1 := hyy rfl
            subst hh1
            go_wp2_with fail
            refine (answers04 _).mono ?_
            rintro e w3 ⟨rfl, hB3⟩
            have HB3 := Lib.hid (below_then hbf.out hbf.out.size hB3)
            clear hB3
            go_wp2_with fail
            go_ret
            exact ⟨rfl, HB3.out⟩
          · clear hyy
            go_wp2_with fail
            refine (answers04 _).mono ?_
            rintro e w3 ⟨rfl, hB3⟩
            have HB3 := Lib.hid (below_then hbf.out hbf.out.size hB3)
            clear hB3
            go_wp2_with fail
            go_ret
            exact ⟨rfl, HB3.out⟩
    · have hzb : (checkS ls != 0) = true := by simp [hz]
      clear hz
      go_enter Try.func7, Try.ntmps7
      go_wp2_with (first | (go_at_call 30; refine (refCheck_any A n c ls w HRR.out (by omega)).mono ?_; rintro e w' ⟨rfl, rfl⟩) | (go_at_call 25; refine (answers04 _).mono ?_; rintro e w1 ⟨rfl, hB⟩))
      go_ret
      exact ⟨rfl, hB⟩
end Go.Proofs.Ytoanhnebalapeaa
