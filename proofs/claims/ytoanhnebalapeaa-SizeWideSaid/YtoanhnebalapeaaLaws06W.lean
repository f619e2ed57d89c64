/- The law SizeWide. -/
import Derived.Test.YtoanhnebalapeaaLaws06O
namespace Go.Proofs.Ytoanhnebalapeaa
open Go.RowKit
open Go.Proofs.YtoanhnebalapeaaW.PrintWords
open Srt Sz

theorem sumTo_bound (cs : List Int) (hc : ∀ s, 0 ≤ ln cs s ∧ ln cs s ≤ 255) : ∀ k, 0 ≤ sumTo k (ln cs) ∧ sumTo k (ln cs) ≤ 255 * k
  | 0 => by rw [sumTo_zero]; omega
  | k + 1 => by
    have h := sumTo_bound cs hc k
    have h2 := hc k
    rw [sumTo_succ]; omega
theorem ln_bound {cs : List Int} {B : Int} (hB : 0 ≤ B) (h : ∀ x ∈ cs, 0 ≤ x ∧ x ≤ B) (s : Nat) : 0 ≤ ln cs s ∧ ln cs s ≤ B := by
  by_cases hs : s < cs.length
  · exact h _ (ln_mem hs)
  · rw [ln_beyond (by omega)]; omega

set_option maxHeartbeats 1000000 in
theorem law_SizeWide (A : Option Addr) (n c : Nat) (cs : List Int) (m : Int) (w : World) (HR : ReadsInt w .u8 A n cs) (hcs : ∀ x ∈ cs, 0 ≤ x ∧ x ≤ 255) (hm : 0 ≤ m ∧ m ≤ 255) :
    Calls Try.prog 11 #[.slice A n c, .int .u8 m] w fun e w' => e = .returned (.bool true) ∧ Below w.heap.size w w' := by
  have HRR := Lib.hid HR; have HL := Lib.hid HR.1; have HC := Lib.hid hcs
  have hmx := HR.2.1
  have hsb := sumTo_bound cs (ln_bound (by decide) hcs)
  have HSB := Lib.hid hsb
  clear HR hcs hsb
  by_cases hbig : 60 < n
  · go_enter Try.func11, Try.ntmps11
    go_wp2_with fail
    refine (answers06 _).mono ?_
    rintro e w1 ⟨rfl, hB⟩
    have HB := Lib.hid hB
    clear hB
    go_wp2_with fail
    go_ret
    exact ⟨rfl, HB.out⟩
  · obtain ⟨t, ht⟩ : ∃ t : Nat, m % 9 = t := Int.eq_ofNat_of_zero_le (by omega)
    have ht1 : t ≤ 8 := by omega
    have HT := Lib.hid ht
    clear ht
    go_enter Try.func11, Try.ntmps11
    go_wp2_with fail
    go_loopw [5, 6, 7] (fun v s i wr => ∃ k : Nat, k ≤ n ∧ i = .int .i64 k ∧ s = .int .i64 (sumTo k (ln cs)) ∧ Hid (wr.ownsRow w.heap.size 3 1 v k (nums .i64 (cs.take k))) ∧ Hid (Below w.heap.size w wr)) (fun _ _ i _ => n - (intOf i).toNat)
    case atStart => exact ⟨0, Nat.zero_le _, rfl, rfl, own_nil _ _ _ _, Below.refl _ _⟩
    case round =>
      obtain ⟨k, hk, rfl, rfl, HO, HB⟩ := hrel
      have hbs := HB.out.size
      have hs0 := HSB.out k
      by_cases hlt : k < n
      · have hcell0 := (HRR.out.below HB.out).at_ (k : Int) (by omega) (by omega)
        obtain ⟨ad, hA, hcell⟩ := hcell0
        rw [Int.toNat_natCast, rd_lnS] at hcell
        subst hA
        have hkl : k < cs.length := by have := HL.out; omega
        have hln := HC.out _ (ln_mem hkl)
        have HTK := Lib.hid (take_ln cs k hkl)
        have HSS := Lib.hid (sumTo_succ k (ln cs))
        have HRR2 := Lib.hid (HRR.out.below HB.out)
        have HKX := Lib.hid (show rd cs (k : Int) = ln cs k from rd_lnS cs k)
        generalize ln cs k = x at *
        generalize sumTo k (ln cs) = s at *
        have hlen : (cs.take k).length = k := by rw [List.length_take]; omega
        have HLEN := Lib.hid hlen
        clear hlen
        go_wp2_with (at_builtin; refine print_append_num w.heap.size rfl _ _ 28 3 .i64 8 rfl Try.underlying28 info_int (by decide) _ (cs.take k) x rfl rfl (by rw [HLEN.out]; exact HO.out) HB.out hbs (by rw [HLEN.out]; omega) ?_)
        intro v1 w1 hown hB1 hg hat
        have hcell2 : w1.cell? (ad.add k) = some (.int .u8 x) := by
          obtain ⟨ad2, hA2, h⟩ := (HRR.out.below hB1).at_ (k : Int) (by omega) (by omega)
          cases hA2
          rw [Int.toNat_natCast, HKX.out] at h
          exact h
        have HO1 := Lib.hid hown; have HB1 := Lib.hid hB1
        clear hown hB1 hg hat hcell
        go_wp2_with fail
        go_roundw
        case rel => exact ⟨k + 1, by omega, by go_num, by rw [HSS.out], by show World.ownsRow _ _ _ _ _ _ _; rw [HTK.out]; have h := HO1.out; rw [show min k cs.length = k from by omega] at h; exact h, HB1.out⟩
        case measure => simp [intOf]; omega
      · obtain rfl : k = n := by omega
        have hO := HO.out
        rw [List.take_of_length_le (by have := HL.out; omega)] at hO
        have hp6 : ∀ q : Int, 6 ≤ q → cs.length ≤ 2 ^ q.toNat := fun q hq => by
          have h1 : (2 : Nat) ^ 6 ≤ 2 ^ q.toNat := Nat.pow_le_pow_right (by decide) (by omega)
          have := HL.out
          omega
        have hok1 := okS_small cs (6 + t) (hp6 _ (by omega)) (by have := HL.out; omega) (fun x hx => by have := HC.out x hx; omega) (by omega) (by omega)
        have hok2 := okS_small cs (6 + t + 1) (hp6 _ (by omega)) (by have := HL.out; omega) (fun x hx => by have := HC.out x hx; omega) (by omega) (by omega)
        have HOK1 := Lib.hid hok1; have HOK2 := Lib.hid hok2
        obtain ⟨Ac, cc, rfl⟩ := own_slice hO
        have HO2 := Lib.hid hO
        clear HO hO hok1 hok2 hp6
        obtain ⟨wo, rfl⟩ : ∃ wo : World, wo = wr := ⟨_, rfl⟩
        go_wp2_with fail
        rw [HT.out]
        go_wp2_with fail
        refine (best_any Ac k cc cs _ wo (own_reads' HO2.out)).mono ?_
        rintro e w2 ⟨hB2, ⟨h, _⟩ | ⟨_, v, out, rfl, hO3, hI⟩⟩
        · rw [HOK1.out] at h; cases h
        obtain ⟨A2, c2, rfl⟩ := own_slice hO3
        have HC2 := Lib.hid (pw_own_below HO2.out hB2)
        have HO3 := Lib.hid hO3
        have HB2 := Lib.hid (below_then HB.out HB.out.size hB2)
        have HI := Lib.hid hI
        clear hO3 hB2 hI
        go_wp2_with fail
        refine (best_any Ac k cc cs _ w2 (own_reads' HC2.out)).mono ?_
        rintro e w3 ⟨hB3, ⟨h, _⟩ | ⟨_, v, out2, rfl, hO4, hI⟩⟩
        · rw [HOK2.out] at h; cases h
        obtain ⟨A3, c3, rfl⟩ := own_slice hO4
        have HC3 := Lib.hid (pw_own_below HC2.out hB3)
        have HO4 := Lib.hid (pw_own_below HO3.out hB3)
        have HO5 := Lib.hid hO4
        have HB3 := Lib.hid (below_then HB2.out HB2.out.size hB3)
        have HI2 := Lib.hid hI
        clear hO4 hB3 hI
        go_wp2_with fail
        refine (answers06 _).mono ?_
        rintro e w4 ⟨rfl, hB4⟩
        have HC4 := Lib.hid (own_reads' (pw_own_below HC3.out hB4))
        have HOa := Lib.hid (own_reads' (pw_own_below HO4.out hB4))
        have HOb := Lib.hid (own_reads' (pw_own_below HO5.out hB4))
        have HB4 := Lib.hid (below_then HB3.out HB3.out.size hB4)
        clear hB4
        go_wp2_with fail
        have hcl : cs.length = k := HL.out
        have hcc : ∀ s, 0 ≤ ln cs s ∧ ln cs s ≤ 4294967296 := fun s => by have := ln_bound (by decide) HC.out s; omega
        obtain ⟨hw1, hw2⟩ := best_wide (by omega) (by omega) HOK1.out HOK2.out HI.out HI2.out
        have hta : totS cs out (min k k) = tt cs out := by
          rw [Nat.min_self]
          exact totS_tt hcl (by omega) hcc (fun s => by have := best_lens HOK1.out HI.out s; omega)
        have htb : totS cs out2 (min k k) = tt cs out2 := by
          rw [Nat.min_self]
          exact totS_tt hcl (by omega) hcc (fun s => by have := best_lens HOK2.out HI2.out s; omega)
        have hS := HSB.out k
        rw [hcl] at hw2
        have HTA := Lib.hid hta; have HTB := Lib.hid htb
        have hSk : sumTo k (ln cs) ≤ 15300 := by omega
        clear hta htb hcc
        generalize tt cs out = TA at *
        generalize tt cs out2 = TB at *
        generalize sumTo k (ln cs) = S at *
        refine (total_size Ac A3 k cc k c3 cs out2 w4 HC4.out HOb.out).mono ?_
        rintro e w5 ⟨rfl, q1, rfl⟩
        rw [HTB.out]
        go_wp2_with fail
        refine (total_size Ac A2 k cc k c2 cs out _ (HC4.out.drewN q1) (HOa.out.drewN q1)).mono ?_
        rintro e w5 ⟨rfl, q2, rfl⟩
        rw [HTA.out]
        have hd1 : decide (TB ≤ TA) = true := by simpa using hw1
        have hd2 : decide (TA ≤ 6 * S) = true := by simpa using hw2
        go_wp2_with fail
        refine (total_size Ac A2 k cc k c2 cs out _ (HC4.out.drewN (q1 + q2)) (HOa.out.drewN (q1 + q2))).mono ?_
        rintro e w5 ⟨rfl, q3, rfl⟩
        rw [HTA.out]
        go_wp2_with fail
        have HF := Lib.hid (pw_below_drewN HB4.out (q1 + q2 + q3))
        go_ret
        exact ⟨rfl, HF.out⟩
end Go.Proofs.Ytoanhnebalapeaa
