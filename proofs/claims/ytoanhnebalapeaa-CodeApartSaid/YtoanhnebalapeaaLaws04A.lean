/- The law CodeApart. -/
import Derived.Test.YtoanhnebalapeaaLaws04
import Derived.Test.YtoanhnebalapeaaCodeP4
import Derived.Test.YtoanhnebalapeaaBitin
namespace Go.Proofs.Ytoanhnebalapeaa
open Go.RowKit
open Go.Proofs.YtoanhnebalapeaaW.PrintWords
open Srt

theorem rd_codes {ls : List Int} {k : Nat} (hk : k < ls.length) (h : 0 < ln ls k) : rd (codesS ls) (k : Int) = codeS ls k := by
  unfold rd
  rw [Int.toNat_natCast, List.getD_eq_getElem?_getD, codesS_get _ _ hk, if_pos h]; rfl

set_option maxRecDepth 8000 in
set_option maxHeartbeats 4000000 in
theorem law_CodeApart (A : Option Addr) (n c : Nat) (ls : List Int) (w : World) (HR : ReadsInt w .i64 A n ls) (hc : n ≤ c) :
    Calls Try.prog 5 #[.slice A n c] w fun e w' => e = .returned (.bool true) ∧ Below w.heap.size w w' := by
  have HRR := Lib.hid HR; have HL := Lib.hid HR.1
  clear HR
  by_cases hn : 60 < n
  · go_enter Try.func5, Try.ntmps5
    go_wp2_with (go_at_call 25; refine (answers04 _).mono ?_; rintro e w1 ⟨rfl, hB⟩)
    go_ret
    exact ⟨rfl, hB⟩
  · by_cases hz : checkS ls = 0
    · have hzb : (checkS ls != 0) = false := by simp [hz]
      have HZ := Lib.hid hz
      clear hz
      obtain ⟨x, HX⟩ : ∃ v, Hid ((oneS ls).1 = v) := ⟨_, rfl⟩
      obtain ⟨y, HY⟩ : ∃ v, Hid ((oneS ls).2 = v) := ⟨_, rfl⟩
      go_enter Try.func5, Try.ntmps5
      go_wp2_with (go_at_call 30; refine (refCheck_any A n c ls w HRR.out (by omega)).mono ?_; rintro e w' ⟨rfl, rfl⟩)
      refine (codes_any A n c ls w HRR.out (by omega)).mono ?_
      rintro e w2 ⟨hB2, v, rfl, _, h⟩
      have hO := h HZ.out
      rw [HL.out] at hO
      obtain ⟨A2, c2, rfl, hR2⟩ := own_reads hO
      have HR2 := Lib.hid hR2
      have HB2 := Lib.hid hB2
      clear hO hR2 hB2 h
      have hL0 := HL.out
      go_wp2_with (go_at_call 26; refine (one_any A n c ls _ (by exact HRR.out.below HB2.out) (by omega) hc).mono ?_; rintro e w' ⟨rfl, rfl⟩; rw [HX.out, HY.out])
      go_loopw [6, 7] (fun i k wr => ∃ k : Nat, k ≤ n ∧ i = .int .i64 k ∧ Hid (∃ q, wr = w2.drewN q)) (fun i _ _ => n - (intOf i).toNat)
      case atStart => exact ⟨0, by omega, rfl, 0, rfl⟩
      case round =>
        obtain ⟨k, hk, rfl, HQ⟩ := hrel
        by_cases hlt : k < n
        · have hq1 : ReadsInt wr .i64 A n ls := by obtain ⟨q, hq⟩ := HQ.out; rw [hq]; exact (HRR.out.below HB2.out).drewN q
          have hq2 : ReadsInt wr .u32 A2 n (codesS ls) := by obtain ⟨q, hq⟩ := HQ.out; rw [hq]; exact HR2.out.drewN q
          obtain ⟨ad, hA, hcell0⟩ := ReadsInt.at_ hq1 (k : Int) (by omega) (by omega)
          rw [Int.toNat_natCast, rd_ln] at hcell0
          obtain ⟨bd, hBd, hcell1⟩ := ReadsInt.at_ hq2 (k : Int) (by omega) (by omega)
          rw [Int.toNat_natCast] at hcell1
          have hkl : k < ls.length := by omega
          obtain ⟨hl0, hl1⟩ := (complete HZ.out).1 k
          clear hq1 hq2
          subst hA
          subst hBd
          have hki : (k : Int) < (n : Int) := by omega
          have hkt : ((k : Int)).toNat = k := by omega
          by_cases hp : 0 < ln ls k
          · have hp1 : decide (0 < ln ls k) = true := by simp [hp]
            rw [rd_codes hkl hp] at hcell1
            have HT := Lib.hid (code_top HZ.out hkl hp)
            go_wp2_with fail
            go_quiet (fail)
            rw [HT.out, show ((0 : Int) != 0) = false from rfl]
            obtain ⟨wi, hwi⟩ : ∃ wi : World, wi = wr.drewN nq := ⟨_, rfl⟩
            rw [← hwi]
            have HQ2 : Hid (∃ q, wi = w2.drewN q) := by obtain ⟨q, hq⟩ := HQ.out; exact ⟨_, by rw [hwi, hq, World.drewN_drewN]⟩
            clear hwi
            have HP := Lib.hid hp
            clear hcell0 hcell1
            go_wp2_with fail
            go_loopw [7] (fun i wr => ∃ m : Nat, m ≤ n ∧ i = .int .i64 m ∧ Hid (∃ q, wr = w2.drewN q)) (fun i _ => n - (intOf i).toNat)
            case atStart => exact ⟨0, by omega, rfl, HQ2.out⟩
            case round =>
              obtain ⟨m, hm, rfl, HQ3⟩ := hrel
              by_cases hlt2 : m < n ∧ y = false
              · obtain ⟨hlt2, rfl⟩ := hlt2
                have hq1 : ReadsInt wr .i64 (some ad) n ls := by obtain ⟨q, hq⟩ := HQ3.out; rw [hq]; exact (HRR.out.below HB2.out).drewN q
                have hq2 : ReadsInt wr .u32 (some bd) n (codesS ls) := by obtain ⟨q, hq⟩ := HQ3.out; rw [hq]; exact HR2.out.drewN q
                obtain ⟨_, hA, hcell0⟩ := ReadsInt.at_ hq1 (k : Int) (by omega) (by omega)
                cases hA
                rw [Int.toNat_natCast, rd_ln] at hcell0
                obtain ⟨_, hBd, hcell1⟩ := ReadsInt.at_ hq2 (k : Int) (by omega) (by omega)
                cases hBd
                rw [Int.toNat_natCast, rd_codes hkl HP.out] at hcell1
                obtain ⟨_, hA, hcell2⟩ := ReadsInt.at_ hq1 (m : Int) (by omega) (by omega)
                cases hA
                rw [Int.toNat_natCast, rd_ln] at hcell2
                obtain ⟨_, hBd, hcell3⟩ := ReadsInt.at_ hq2 (m : Int) (by omega) (by omega)
                cases hBd
                rw [Int.toNat_natCast] at hcell3
                have hml : m < ls.length := by omega
                obtain ⟨hm0, hm1⟩ := (complete HZ.out).1 m
                clear hq1 hq2
                have hmi : (m : Int) < (n : Int) := by omega
                have hmt : ((m : Int)).toNat = m := by omega
                by_cases hne : m = k
                · subst hne
                  have hb1 : ((m : Int) != (m : Int)) = false := by simp
                  go_wp2_with fail
                  go_quiet (fail)
                  go_wp2_with fail
                  go_roundw
                  case rel =>
                    obtain ⟨q, hq⟩ := HQ3.out
                    exact ⟨m + 1, by omega, by go_num, _, by rw [hq, World.drewN_drewN]⟩
                  case measure => simp [intOf]; omega
                · have hb1 : ((m : Int) != (k : Int)) = true := by simp; omega
                  by_cases hle : ln ls k ≤ ln ls m
                  · have hb2 : decide (ln ls k ≤ ln ls m) = true := by simp [hle]
                    have HD := Lib.hid (show (codeS ls m / 2 ^ (ln ls m - ln ls k).toNat == codeS ls k) = false from by simp; exact code_shr hkl hml hne hp hle)
                    rw [rd_codes hml (by omega)] at hcell3
                    go_wp2_with fail
                    go_quiet (fail)
                    rw [HD.out]
                    go_wp2_with fail
                    go_roundw
                    case rel =>
                      obtain ⟨q, hq⟩ := HQ3.out
                      exact ⟨m + 1, by omega, by go_num, _, by rw [hq, World.drewN_drewN]⟩
                    case measure => simp [intOf]; omega
                  · have hb2 : decide (ln ls k ≤ ln ls m) = false := by simp [hle]
                    go_wp2_with fail
                    go_quiet (fail)
                    go_wp2_with fail
                    go_roundw
                    case rel =>
                      obtain ⟨q, hq⟩ := HQ3.out
                      exact ⟨m + 1, by omega, by go_num, _, by rw [hq, World.drewN_drewN]⟩
                    case measure => simp [intOf]; omega
              · by_cases hm2 : m < n
                · obtain rfl : y = true := by cases y; exact absurd ⟨hm2, rfl⟩ hlt2; rfl
                  clear hlt2
                  go_wp2_with fail
                  go_roundw
                  case rel =>
                    exact ⟨k + 1, by omega, by go_num, HQ3.out⟩
                  case measure => simp [intOf]; omega
                · clear hlt2
                  go_wp2_with fail
                  go_roundw
                  case rel =>
                    exact ⟨k + 1, by omega, by go_num, HQ3.out⟩
                  case measure => simp [intOf]; omega
          · have hp1 : decide (0 < ln ls k) = false := by simp; omega
            go_wp2_with fail
            go_quiet (fail)
            obtain ⟨wi, hwi⟩ : ∃ wi : World, wi = wr.drewN nq := ⟨_, rfl⟩
            rw [← hwi]
            have HQ2 : Hid (∃ q, wi = w2.drewN q) := by obtain ⟨q, hq⟩ := HQ.out; exact ⟨_, by rw [hwi, hq, World.drewN_drewN]⟩
            clear hwi hcell0 hcell1
            go_wp2_with fail
            go_loopw [7] (fun i wr => ∃ m : Nat, m ≤ n ∧ i = .int .i64 m ∧ Hid (∃ q, wr = w2.drewN q)) (fun i _ => n - (intOf i).toNat)
            case atStart => exact ⟨0, by omega, rfl, HQ2.out⟩
            case round =>
              obtain ⟨m, hm, rfl, HQ3⟩ := hrel
              by_cases hlt2 : m < n ∧ y = false
              · obtain ⟨hlt2, rfl⟩ := hlt2
                have hq1 : ReadsInt wr .i64 (some ad) n ls := by obtain ⟨q, hq⟩ := HQ3.out; rw [hq]; exact (HRR.out.below HB2.out).drewN q
                obtain ⟨_, hA, hcell0⟩ := ReadsInt.at_ hq1 (k : Int) (by omega) (by omega)
                cases hA
                rw [Int.toNat_natCast, rd_ln] at hcell0
                clear hq1
                have hmi : (m : Int) < (n : Int) := by omega
                have hmt : ((m : Int)).toNat = m := by omega
                by_cases hne : m = k
                · subst hne
                  have hb1 : ((m : Int) != (m : Int)) = false := by simp
                  go_wp2_with fail
                  go_quiet (fail)
                  go_wp2_with fail
                  go_roundw
                  case rel =>
                    obtain ⟨q, hq⟩ := HQ3.out
                    exact ⟨m + 1, by omega, by go_num, _, by rw [hq, World.drewN_drewN]⟩
                  case measure => simp [intOf]; omega
                · have hb1 : ((m : Int) != (k : Int)) = true := by simp; omega
                  go_wp2_with fail
                  go_quiet (fail)
                  go_wp2_with fail
                  go_roundw
                  case rel =>
                    obtain ⟨q, hq⟩ := HQ3.out
                    exact ⟨m + 1, by omega, by go_num, _, by rw [hq, World.drewN_drewN]⟩
                  case measure => simp [intOf]; omega
              · by_cases hm2 : m < n
                · obtain rfl : y = true := by cases y; exact absurd ⟨hm2, rfl⟩ hlt2; rfl
                  clear hlt2
                  go_wp2_with fail
                  go_roundw
                  case rel =>
                    exact ⟨k + 1, by omega, by go_num, HQ3.out⟩
                  case measure => simp [intOf]; omega
                · clear hlt2
                  go_wp2_with fail
                  go_roundw
                  case rel =>
                    exact ⟨k + 1, by omega, by go_num, HQ3.out⟩
                  case measure => simp [intOf]; omega
        · have hbf : Hid (Below w.heap.size w wr) := by obtain ⟨q, hq⟩ := HQ.out; show Below _ _ _; rw [hq]; exact pw_below_drewN HB2.out q
          go_wp2_with fail
          refine (answers04 _).mono ?_
          rintro e w3 ⟨rfl, hB3⟩
          have HB3 := Lib.hid (below_then hbf.out hbf.out.size hB3)
          clear hB3
          go_wp2_with fail
          go_ret
          exact ⟨rfl, HB3.out⟩
    · have hzb : (checkS ls != 0) = true := by simp [hz]
      clear hz
      go_enter Try.func5, Try.ntmps5
      go_wp2_with (first | (go_at_call 30; refine (refCheck_any A n c ls w HRR.out (by omega)).mono ?_; rintro e w' ⟨rfl, rfl⟩) | (go_at_call 25; refine (answers04 _).mono ?_; rintro e w1 ⟨rfl, hB⟩))
      go_ret
      exact ⟨rfl, hB⟩
end Go.Proofs.Ytoanhnebalapeaa
