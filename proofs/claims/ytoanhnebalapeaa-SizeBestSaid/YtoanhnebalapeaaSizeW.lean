/- What size.check and size.Total do. -/
import Derived.Test.YtoanhnebalapeaaTypes
import Derived.Test.YtoanhnebalapeaaCodeP
import Derived.Test.YtoanhnebalapeaaSizeP3
namespace Go.Proofs.Ytoanhnebalapeaa
open Go.RowKit
open Go.Proofs.YtoanhnebalapeaaW.PrintWords

theorem rd_lnS (ls : List Int) (k : Nat) : rd ls (k : Int) = ln ls k := by unfold rd ln; rw [Int.toNat_natCast, List.getD_eq_getElem?_getD]
def badCnt (n : Int) : Bool := decide (n < 0) || decide (4294967296 < n)
/-- May there be such lengths? -/
def okS (cs : List Int) (most : Int) : Bool := decide (1 ≤ most ∧ most ≤ 15 ∧ cs.length ≤ 4096) && !cs.any badCnt && decide ((many cs : Int) ≤ 2 ^ most.toNat)
theorem cnt_up (cs : List Int) (k : Nat) (hk : k < cs.length) : (cs.take (k + 1)).any badCnt = ((cs.take k).any badCnt || badCnt (ln cs k)) := by
  rw [List.take_add_one, List.getElem?_eq_getElem hk, List.any_append, ln_get hk]; simp

set_option maxHeartbeats 1000000 in
theorem check_size (A : Option Addr) (n c : Nat) (cs : List Int) (most : Int) (w : World) (HR : ReadsInt w .i64 A n cs) :
    Calls Try.prog 68 #[.slice A n c, .int .i64 most] w fun e w' => e = .returned (.bool (okS cs most)) ∧ w = w' := by
  have HRR := Lib.hid HR; have HL := Lib.hid HR.1
  have hmx := HR.2.1
  clear HR
  by_cases h0 : 1 ≤ most ∧ most ≤ 15 ∧ n ≤ 4096
  · obtain ⟨h1, h2, h3⟩ := h0
    go_enter Try.func68, Try.ntmps68
    go_wp2_with fail
    go_loop [5, 7, 21] (fun s x i => ∃ k : Nat, k ≤ n ∧ i = .int .i64 k ∧ s = .int .i64 (mnUp cs k : Nat) ∧ Hid ((cs.take k).any badCnt = false)) (fun _ _ i => n - (intOf i).toNat)
    case atStart => exact ⟨0, Nat.zero_le _, rfl, rfl, rfl⟩
    case round =>
      obtain ⟨k, hk, rfl, rfl, HB⟩ := hrel
      have hmk := mnUp_le cs k
      by_cases hlt : k < n
      · obtain ⟨ad, hA, hcell⟩ := ReadsInt.at_ HRR.out (k : Int) (by omega) (by omega)
        rw [Int.toNat_natCast, rd_lnS] at hcell
        subst hA
        have hkl : k < cs.length := by have := HL.out; omega
        by_cases hbad : badCnt (ln cs k) = true
        · have HF := Lib.hid (show okS cs most = false from by
            unfold okS
            have : cs.any badCnt = true := List.any_eq_true.2 ⟨ln cs k, ln_mem hkl, hbad⟩
            rw [this]; simp)
          have hb2 : ln cs k < 0 ∨ 4294967296 < ln cs k := by unfold badCnt at hbad; simpa using hbad
          clear hbad
          by_cases q : ln cs k < 0
          · go_wp2
            go_ret
            exact ⟨by rw [HF.out]; rfl, rfl⟩
          · have q2 : 4294967296 < ln cs k := by omega
            go_wp2
            go_ret
            exact ⟨by rw [HF.out]; rfl, rfl⟩
        · have hb2 : ¬ ln cs k < 0 ∧ ¬ 4294967296 < ln cs k := by unfold badCnt at hbad; simp at hbad; omega
          obtain ⟨q1, q2⟩ := hb2
          have HB1 := Lib.hid (show (cs.take (k + 1)).any badCnt = false from by rw [cnt_up cs k hkl, HB.out]; simpa using hbad)
          have HN := Lib.hid (mnUp_succ cs k)
          clear hbad
          by_cases hp : 0 < ln cs k
          · have HN2 := Lib.hid (show mnUp cs (k + 1) = mnUp cs k + 1 from by rw [HN.out, if_pos hp])
            go_wp2
            go_round
            case rel => exact ⟨k + 1, by omega, by go_num, by rw [HN2.out]; go_num, HB1.out⟩
            case measure => simp [intOf]; omega
          · have HN2 := Lib.hid (show mnUp cs (k + 1) = mnUp cs k from by rw [HN.out, if_neg hp]; rfl)
            go_wp2
            go_round
            case rel => exact ⟨k + 1, by omega, by go_num, by rw [HN2.out], HB1.out⟩
            case measure => simp [intOf]; omega
      · have hkn : k = cs.length := by have := HL.out; omega
        have HF := Lib.hid (show okS cs most = decide ((mnUp cs k : Int) ≤ 2 ^ most.toNat) from by
          unfold okS
          have hb := HB.out
          rw [hkn, List.take_of_length_le (Nat.le_refl _)] at hb
          rw [hb, decide_eq_true (show 1 ≤ most ∧ most ≤ 15 ∧ cs.length ≤ 4096 from ⟨h1, h2, by omega⟩), hkn]; rfl)
        have hpw : (2 : Int) ^ most.toNat ≤ 32768 := by
          have : (2 : Int) ^ most.toNat ≤ 2 ^ 15 := by exact_mod_cast Nat.pow_le_pow_right (by decide) (by omega)
          omega
        have hpw0 : (0 : Int) < 2 ^ most.toNat := Int.pow_pos (by decide)
        have hwr : wrap64 (2 ^ most.toNat) = 2 ^ most.toNat := w64 _ (by omega) (by omega)
        clear hkn
        go_wp2
        go_ret
        exact ⟨by rw [HF.out]; rfl, rfl⟩
  · have HF := Lib.hid (show okS cs most = false from by
      unfold okS
      rw [decide_eq_false (by rw [HL.out]; exact h0)]; rfl)
    by_cases q1 : most < 1
    · go_enter Try.func68, Try.ntmps68
      go_wp2
      go_ret
      exact ⟨by rw [HF.out]; rfl, rfl⟩
    · by_cases q2 : 15 < most
      · go_enter Try.func68, Try.ntmps68
        go_wp2
        go_ret
        exact ⟨by rw [HF.out]; rfl, rfl⟩
      · have q3 : 4096 < n := by omega
        clear h0
        go_enter Try.func68, Try.ntmps68
        go_wp2
        go_ret
        exact ⟨by rw [HF.out]; rfl, rfl⟩

/-- What lengths cost. -/
def totS (cs ls : List Int) : Nat → Int
  | 0 => 0
  | k + 1 => wrap64 (totS cs ls k + wrap64 (ln cs k * ln ls k))
set_option maxHeartbeats 1000000 in
theorem total_size (A B : Option Addr) (n c m d : Nat) (cs ls : List Int) (w : World) (HR : ReadsInt w .i64 A n cs) (HS : ReadsInt w .i64 B m ls) :
    Calls Try.prog 34 #[.slice A n c, .slice B m d] w fun e w' => e = .returned (.int .i64 (totS cs ls (min n m))) ∧ ∃ q, w' = w.drewN q := by
  have HRR := Lib.hid HR; have HSS := Lib.hid HS
  have hmx := HR.2.1; have hmy := HS.2.1
  clear HR HS
  have hwr : ∀ k, wrap64 (totS cs ls k) = totS cs ls k := fun k => by
    cases k with
    | zero =>
      show wrap64 0 = 0
      unfold wrap64; omega
    | succ k => unfold totS wrap64; omega
  have HW := Lib.hid hwr; clear hwr
  by_cases hnm : n ≤ m
  all_goals
    go_enter Try.func34, Try.ntmps34
    go_wp2_with fail
    go_loopw [5, 6, 12] (fun s x i wr => ∃ k : Nat, k ≤ n ∧ k ≤ m ∧ i = .int .i64 k ∧ s = .int .i64 (totS cs ls k) ∧ Hid (∃ q, wr = w.drewN q)) (fun _ _ i _ => n - (intOf i).toNat)
    case atStart => exact ⟨0, Nat.zero_le _, Nat.zero_le _, rfl, rfl, 0, rfl⟩
    case round =>
      obtain ⟨k, hk1, hk2, rfl, rfl, HQ⟩ := hrel
      by_cases hlt : k < n ∧ k < m
      · obtain ⟨q1, q2⟩ := hlt
        obtain ⟨ad, hA, hcell⟩ := ReadsInt.at_ HRR.out (k : Int) (by omega) (by omega)
        obtain ⟨bd, hB, hcelb⟩ := ReadsInt.at_ HSS.out (k : Int) (by omega) (by omega)
        rw [Int.toNat_natCast, rd_lnS] at hcell hcelb
        subst hA hB
        have hc1 : wr.cell? (ad.add k) = some (.int .i64 (ln cs k)) := by obtain ⟨q, e⟩ := HQ.out; rw [e]; simpa using hcell
        have hc2 : wr.cell? (bd.add k) = some (.int .i64 (ln ls k)) := by obtain ⟨q, e⟩ := HQ.out; rw [e]; simpa using hcelb
        have HN := Lib.hid (show totS cs ls (k + 1) = wrap64 (totS cs ls k + wrap64 (ln cs k * ln ls k)) from rfl)
        clear hcell hcelb
        generalize ln cs k = x at *
        generalize ln ls k = y at *
        go_wp2_with fail
        go_quiet (fail)
        go_wp2_with fail
        go_roundw
        case rel => exact ⟨k + 1, by omega, by omega, by go_num, by rw [HN.out], by obtain ⟨q, e⟩ := HQ.out; exact ⟨q + nq, by rw [e, World.drewN_drewN]⟩⟩
        case measure => simp [intOf]; omega
      · have hkk : k = min n m := by omega
        have HK := Lib.hid (show totS cs ls (min n m) = totS cs ls k from by rw [hkk])
        clear hkk
        go_wp2_with fail
        go_ret
        exact ⟨by rw [HK.out]; rfl, HQ.out⟩
end Go.Proofs.Ytoanhnebalapeaa
