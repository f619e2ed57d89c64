/- The reference's Blocks, with few bits. -/
import Derived.Test.YtmgkdlkjcncniaaRefTab1
namespace Go.Proofs.Ytmgkdlkjcncniaa
open Go.RowKit
open Go.Proofs.YtmgkdlkjcncniaaW.PrintWords

theorem blocks_exact {n B : Int} (hB : 0 < B) (h : n % B = 0) : (n + B - 1) / B = n / B := by
  have e := Int.mul_ediv_add_emod n B
  rw [h, Int.add_zero] at e
  have e2 : n + B - 1 = (B - 1) + B * (n / B) := by omega
  rw [e2, Int.add_mul_ediv_left _ _ (by omega), Int.ediv_eq_zero_of_lt (by omega) (by omega)]; omega
theorem blocks_rest {n B : Int} (hB : 0 < B) (h : ¬ n % B = 0) : (n + B - 1) / B = n / B + 1 := by
  have e := Int.mul_ediv_add_emod n B
  have h1 := Int.emod_nonneg n (show B ≠ 0 by omega)
  have h2 := Int.emod_lt_of_pos n hB
  have e2 : n + B - 1 = (n % B - 1) + B * (n / B + 1) := by rw [Int.mul_add, Int.mul_one]; omega
  rw [e2, Int.add_mul_ediv_left _ _ (by omega), Int.ediv_eq_zero_of_lt (by omega) (by omega)]; omega
set_option maxHeartbeats 1000000 in
theorem refBlocks_any (n : Int) (b : Nat) (w : World) (h0 : 0 ≤ n) (h1 : n ≤ 16777216) (hb : b ≤ 3) : Calls Try.prog 29 #[.int .i64 n, .int .i64 b] w fun e w' => e = .returned (.int .i64 (blocksI n b)) ∧ w = w' := by
  unfold blocksI
  obtain ⟨B, hB⟩ : ∃ B : Nat, 2 ^ b = B := ⟨_, rfl⟩
  have hBi : (2 : Int) ^ b = (B : Int) := by rw [← hB]; norm_cast
  rw [hBi]
  have hB1 : 1 ≤ B ∧ B ≤ 8 := by
    rw [← hB]
    have : b = 0 ∨ b = 1 ∨ b = 2 ∨ b = 3 := by omega
    rcases this with rfl | rfl | rfl | rfl <;> decide
  have HBB := Lib.hid hB
  clear hB hBi
  have hz1 : ¬ n < 0 := by omega
  have hz2 : ¬ 16777216 < n := by omega
  have hz3 : ¬ (b : Int) < 0 := by omega
  have hz4 : ¬ 30 < (b : Int) := by omega
  go_enter Try.func29, Try.ntmps29
  go_wp2_with fail
  go_loopw [5, 6] (fun v i wr => ∃ k y : Nat, k ≤ b ∧ i = .int .i64 k ∧ v = .int .i64 y ∧ Hid (y = 2 ^ k) ∧ wr = w) (fun _ i _ => b - (intOf i).toNat)
  case atStart => exact ⟨0, 1, Nat.zero_le _, rfl, rfl, Lib.hid rfl, rfl⟩
  case round =>
    obtain ⟨k, y, hk, rfl, rfl, HY, rfl⟩ := hrel
    by_cases hlt : k < b
    · have hy : y ≤ 8 := by
        rw [HY.out]
        have := Nat.pow_le_pow_right (show 0 < 2 by decide) (show k ≤ 3 by omega)
        omega
      go_wp2_with fail
      go_roundw
      case rel => exact ⟨k + 1, y * 2, by omega, by go_num, by go_num, Lib.hid (by rw [HY.out, Nat.pow_succ]), by first | rfl | trivial⟩
      case measure => simp [intOf]; omega
    · have : k = b := by omega
      subst this
      have : y = B := by rw [HY.out, HBB.out]
      subst this
      have hy0 : ¬ y = 0 := by omega
      by_cases hm : n % (y : Int) = 0
      · have HQ := Lib.hid (blocks_exact (n := n) (B := (y : Int)) (by omega) hm)
        have hd : ((n % (y : Int)) == 0) = true := by simpa using hm
        go_wp2_with fail
        go_ret
        exact ⟨by rw [HQ.out]; rfl, rfl⟩
      · have HQ := Lib.hid (blocks_rest (n := n) (B := (y : Int)) (by omega) hm)
        have hr : 0 ≤ n / (y : Int) ∧ n / (y : Int) ≤ 16777216 := by
          refine ⟨Int.ediv_nonneg h0 (by omega), ?_⟩
          have := Int.ediv_le_self (y : Int) h0
          omega
        have hd : ((n % (y : Int)) == 0) = false := by simpa using hm
        have hq : n.tdiv (y : Int) = n / (y : Int) := Int.tdiv_eq_ediv_of_nonneg h0
        have HQ2 := Lib.hid hq
        clear hq
        go_wp2_with fail
        all_goals
          go_ret
          exact ⟨by rw [HQ.out, ← HQ2.out]; rfl, rfl⟩
end Go.Proofs.Ytmgkdlkjcncniaa
