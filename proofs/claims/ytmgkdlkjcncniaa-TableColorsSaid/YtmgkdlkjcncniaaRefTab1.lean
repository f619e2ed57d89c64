/- Small functions of the reference's layers 11 to 16. -/
import Derived.Test.YtmgkdlkjcncniaaRefPix
import Derived.Test.YtmgkdlkjcncniaaPixP
namespace Go.Proofs.Ytmgkdlkjcncniaa
open Go.RowKit
open Go.Proofs.YtmgkdlkjcncniaaW.PrintWords

set_option maxHeartbeats 1000000 in
theorem refGood_any (W H : Int) (A : Option Addr) (n c : Nat) (w : World) : Calls Try.prog 28 #[.agg #[.int .i64 W, .int .i64 H, .slice A n c]] w fun e w' => e = .returned (.bool (goodI W H n)) ∧ Below w.heap.size w w' := by
  go_enter Try.func28, Try.ntmps28
  go_wp2_with fail
  all_goals
    go_ret
    refine ⟨?_, (Below.refl _ _).alloc (Nat.le_refl _) _⟩
    unfold goodI
    first
      | exact congrArg (fun b => Ending.returned (Value.bool b)) (decide_eq_false (by omega)).symm
      | exact congrArg (fun b => Ending.returned (Value.bool b)) (good_last (by omega) (by omega) (by omega) (by omega))

/-- Two to how many pixels are one, of any number. -/
def bitsZ (n : Int) : Int := if n ≤ 2 then 3 else if n ≤ 4 then 2 else if n ≤ 16 then 1 else 0
theorem bitsZ_nat (n : Nat) : bitsZ n = (bitsT n : Int) := by
  unfold bitsZ bitsT
  by_cases h1 : n ≤ 2
  · rw [if_pos (by omega), if_pos h1]; rfl
  rw [if_neg (by omega), if_neg h1]
  by_cases h2 : n ≤ 4
  · rw [if_pos (by omega), if_pos h2]; rfl
  rw [if_neg (by omega), if_neg h2]
  by_cases h3 : n ≤ 16
  · rw [if_pos (by omega), if_pos h3]; rfl
  rw [if_neg (by omega), if_neg h3]; rfl
theorem refPack_any (n : Int) (w : World) : Calls Try.prog 19 #[.int .i64 n] w fun e w' => e = .returned (.int .i64 (bitsZ n)) ∧ w = w' := by
  unfold bitsZ
  go_enter Try.func19, Try.ntmps19
  go_wp2_with fail
  all_goals
    go_ret
    exact ⟨rfl, rfl⟩
theorem bitsI_any (n : Int) (w : World) : Calls Try.prog 18 #[.int .i64 n] w fun e w' => e = .returned (.int .i64 (bitsZ n)) ∧ w = w' := by
  unfold bitsZ
  go_enter Try.func18, Try.ntmps18
  go_wp2_with fail
  all_goals
    go_ret
    exact ⟨rfl, rfl⟩

theorem part_any (p : Int) (k : Nat) (w : World) (h0 : 0 ≤ p) (h1 : p < 4294967296) (hk : k < 4) : Calls Try.prog 32 #[.int .u32 p, .int .i64 k] w fun e w' => e = .returned (.int .i64 (partP p k)) ∧ w = w' := by
  have h : k = 0 ∨ k = 1 ∨ k = 2 ∨ k = 3 := by omega
  unfold partP
  rcases h with rfl | rfl | rfl | rfl
  all_goals
    go_enter Try.func32, Try.ntmps32
    go_wp2_with fail
    go_ret
    refine ⟨?_, rfl⟩
    try simp

theorem tmod256 (x : Int) : x.tmod 256 = if 0 ≤ x then x % 256 else -((-x) % 256) := by
  by_cases h : 0 ≤ x
  · rw [if_pos h, Int.tmod_eq_emod_of_nonneg h]
  · rw [if_neg h]
    have e : x = -(-x) := by omega
    conv => lhs; rw [e]
    rw [Int.neg_tmod, Int.tmod_eq_emod_of_nonneg (by omega)]
theorem round_mod {x : Int} : (wrap64 (x.tmod 256 + 256)).tmod 256 % 4294967296 = x % 256 := by
  have h1 : -256 < x.tmod 256 ∧ x.tmod 256 < 256 := by rw [tmod256]; split <;> omega
  rw [w64 _ (by omega) (by omega), Int.tmod_eq_emod_of_nonneg (by omega)]
  have : (x.tmod 256 + 256) % 256 = x % 256 := by rw [tmod256]; split <;> omega
  rw [this]
  omega
set_option maxHeartbeats 1000000 in
theorem make_any (a b c d : Int) (w : World) (ha : -100000 ≤ a ∧ a ≤ 100000) (hb' : -100000 ≤ b ∧ b ≤ 100000) (hc : -100000 ≤ c ∧ c ≤ 100000) (hd : -100000 ≤ d ∧ d ≤ 100000) :
    Calls Try.prog 30 #[.agg #[.int .i64 a, .int .i64 b, .int .i64 c, .int .i64 d]] w fun e w' => e = .returned (.int .u32 (mk4 a b c d)) ∧ Below w.heap.size w w' := by
  have hn := alloc_new w #[.int .i64 a, .int .i64 b, .int .i64 c, .int .i64 d] 54
  have hb1 := (Below.refl _ w).alloc (Nat.le_refl _) (.cells #[.int .i64 a, .int .i64 b, .int .i64 c, .int .i64 d] 54)
  obtain ⟨X, hX⟩ : ∃ X, w.heap.size = X := ⟨_, rfl⟩
  rw [hX] at hn hb1
  have HX := Lib.hid hX; have HN := Lib.hid hn; have HB := Lib.hid hb1
  clear hX hn hb1
  go_enter Try.func30, Try.ntmps30
  go_wp2_with fail
  rw [HX.out]
  generalize w.alloc (.cells #[.int .i64 a, .int .i64 b, .int .i64 c, .int .i64 d] 54) = w1 at *
  go_loopw [3, 4] (fun v i wr => ∃ k : Nat, k ≤ 4 ∧ i = .int .i64 k ∧ v = .int .u32 (mkS a b c d k) ∧ wr = w1) (fun _ i _ => 4 - (intOf i).toNat)
  case atStart => exact ⟨0, Nat.zero_le _, rfl, rfl, rfl⟩
  case round =>
    obtain ⟨k, hk, rfl, rfl, rfl⟩ := hrel
    by_cases hlt : k < 4
    · have hcell : ∃ x : Int, wr.cell? ⟨X, k, none⟩ = some (.int .i64 x) ∧ x = #[a, b, c, d].getD k 0 ∧ -100000 ≤ x ∧ x ≤ 100000 := by
        have h : k = 0 ∨ k = 1 ∨ k = 2 ∨ k = 3 := by omega
        have hb := HN.out
        rcases h with rfl | rfl | rfl | rfl
        · exact ⟨a, by simp [World.cell?, hb], rfl, ha⟩
        · exact ⟨b, by simp [World.cell?, hb], rfl, hb'⟩
        · exact ⟨c, by simp [World.cell?, hb], rfl, hc⟩
        · exact ⟨d, by simp [World.cell?, hb], rfl, hd⟩
      obtain ⟨x, hc, hx, hr⟩ := hcell
      have e1 : (wrap64 (x.tmod 256 + 256)).tmod 256 % 4294967296 = x % 256 := round_mod
      have e2 : (mkS a b c d k * 256 % 4294967296 + x % 256) % 4294967296 = mkS a b c d (k + 1) := by have h := mkS_step k hlt hx; simpa [IntKind.wrap, IntKind.bits, IntKind.signed] using h
      have e3 := mkS_lt a b c d hlt
      clear hx
      have hd' : decide ((k : Int) < 4) = true := by simp; omega
      have hd2 : (k : Int) < 4 := by omega
      generalize mkS a b c d k = y at *
      go_wp2_with fail
      go_roundw
      case rel => exact ⟨k + 1, by omega, by go_num, by refine congrArg (Value.int .u32) ?_; omega, by first | rfl | trivial⟩
      case measure => simp [intOf]; omega
    · have : k = 4 := by omega
      subst this
      go_wp2_with fail
      go_ret
      exact ⟨rfl, by rw [HX.out]; exact HB.out⟩
end Go.Proofs.Ytmgkdlkjcncniaa
