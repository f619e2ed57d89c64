/- The law SizeTotals. -/
import Derived.Test.YtoanhnebalapeaaLaws06
namespace Go.Proofs.Ytoanhnebalapeaa
open Go.RowKit
open Go.Proofs.YtoanhnebalapeaaW.PrintWords
open Srt Sz

set_option maxHeartbeats 1000000 in
theorem law_SizeTotals (A B : Option Addr) (n c m d : Nat) (cs ls : List Int) (w : World) (HR : ReadsInt w .i64 A n cs) (HS : ReadsInt w .i64 B m ls) :
    Calls Try.prog 9 #[.slice A n c, .slice B m d] w fun e w' => e = .returned (.bool true) ∧ Below w.heap.size w w' := by
  have HRR := Lib.hid HR; have HSS := Lib.hid HS
  have hmx := HR.2.1; have hmy := HS.2.1
  clear HR HS
  have hwr : ∀ k, wrap64 (totS cs ls k) = totS cs ls k := fun k => by
    cases k with
    | zero =>
      show wrap64 0 = 0
      unfold wrap64; omega
    | succ k => unfold totS wrap64; omega
  have HW := Lib.hid hwr; clear hwr
  by_cases hbig : n ≤ 1000 ∧ m ≤ 1000
  · obtain ⟨hb1, hb2⟩ := hbig
    by_cases hnm : n ≤ m
    all_goals
      go_enter Try.func9, Try.ntmps9
      go_wp2_with fail
      go_loopw [5, 6] (fun s i wr => ∃ k : Nat, k ≤ n ∧ k ≤ m ∧ i = .int .i64 k ∧ s = .int .i64 (totS cs ls k) ∧ Hid (∃ q, wr = w.drewN q)) (fun _ i _ => n - (intOf i).toNat)
      case atStart => exact ⟨0, Nat.zero_le _, Nat.zero_le _, rfl, rfl, 0, rfl⟩
      case round =>
        obtain ⟨k, hk1, hk2, rfl, rfl, HQ⟩ := hrel
        by_cases hlt : k < n ∧ k < m
        · obtain ⟨q1, q2⟩ := hlt
          obtain ⟨ad, hA, hcell⟩ := ReadsInt.at_ HRR.out (k : Int) (by omega) (by omega)
          obtain ⟨bd, hB, hcelb⟩ := ReadsInt.at_ HSS.out (k : Int) (by omega) (by omega)
          rw [Int.toNat_natCast, rd_lnS] at hcell hcelb
          subst hA hB
          have hc1 : wr.cell? (ad.add k) = some (.int .i64 (ln cs k)) := by obtain ⟨q, e⟩ := HQ.out; rw [e]; simpa using hcell
          have hc2 : wr.cell? (bd.add k) = some (.int .i64 (ln ls k)) := by obtain ⟨q, e⟩ := HQ.out; rw [e]; simpa using hcelb
          have HN := Lib.hid (show totS cs ls (k + 1) = wrap64 (totS cs ls k + wrap64 (ln cs k * ln ls k)) from rfl)
          clear hcell hcelb
          generalize ln cs k = x at *
          generalize ln ls k = y at *
          go_wp2_with fail
          go_quiet (fail)
          go_wp2_with fail
          go_roundw
          case rel => exact ⟨k + 1, by omega, by omega, by go_num, by rw [HN.out], by obtain ⟨q, e⟩ := HQ.out; exact ⟨q + nq, by rw [e, World.drewN_drewN]⟩⟩
          case measure => simp [intOf]; omega
        · have hkk : k = min n m := by omega
          have HK := Lib.hid (show totS cs ls k = totS cs ls (min n m) from by rw [hkk])
          clear hkk
          rw [HK.out]
          clear HK
          generalize hT : totS cs ls (min n m) = T
          have HT := Lib.hid hT
          clear hT
          have hq := HQ.out
          go_wp2_with fail
          refine (answers06 _).mono ?_
          rintro e w1 ⟨rfl, hB⟩
          obtain ⟨q, rfl⟩ := hq
          have hB0 : Below w.heap.size w w1 := below_then (Mods.drewN (Mods.refl [] w) q).below (Mods.drewN (Mods.refl [] w) q).size hB
          have HB := Lib.hid hB0
          clear hB hB0
          go_wp2_with fail
          refine (total_size A B n c m d cs ls w1 (HRR.out.below HB.out) (HSS.out.below HB.out)).mono ?_
          rintro e w2 ⟨rfl, q2, rfl⟩
          rw [HT.out]
          have HB2 := Lib.hid (below_then HB.out HB.out.size (Mods.drewN (Mods.refl [] w1) q2).below)
          go_wp2_with fail
          go_ret
          exact ⟨by simp, HB2.out⟩
  · by_cases hb1 : n ≤ 1000
    all_goals
      go_enter Try.func9, Try.ntmps9
      go_wp2_with fail
      refine (answers06 _).mono ?_
      rintro e w1 ⟨rfl, hB⟩
      have HB := Lib.hid hB
      clear hB
      go_wp2_with fail
      go_ret
      exact ⟨rfl, HB.out⟩
end Go.Proofs.Ytoanhnebalapeaa
