/- Small functions of pixel, table, le. -/
import Derived.Test.YtodpognmkbjlmaaGreatDoorBase
import Derived.Test.YtodpognmkbjlmaaGreatDoorTypes
import Derived.BigQuiet
import Derived.IntWalk
namespace Go.Proofs.YtodpognmkbjlmaaGreatDoor
open Go.RowKit
open Go.Proofs.YtodpognmkbjlmaaGreatDoorW.PrintWords

/-- May an image be? -/
def goodI (W H : Int) (n : Nat) : Bool := decide (1 ≤ W ∧ W ≤ 16384 ∧ 1 ≤ H ∧ H ≤ 16384 ∧ (n : Int) = W * H)
theorem prod_room {W H : Int} (h1 : 1 ≤ W) (h2 : W ≤ 16384) (h3 : 1 ≤ H) (h4 : H ≤ 16384) : 1 ≤ W * H ∧ W * H ≤ 268435456 := by
  have a : W * 1 ≤ W * H := Int.mul_le_mul_of_nonneg_left h3 (by omega)
  have b : W * H ≤ W * 16384 := Int.mul_le_mul_of_nonneg_left h4 (by omega)
  omega

theorem good_last {W H : Int} {n : Nat} (h1 : 1 ≤ W) (h2 : W ≤ 16384) (h3 : 1 ≤ H) (h4 : H ≤ 16384) : ((n : Int) == wrap64 (W * H)) = decide (1 ≤ W ∧ W ≤ 16384 ∧ 1 ≤ H ∧ H ≤ 16384 ∧ (n : Int) = W * H) := by
  have hp := prod_room h1 h2 h3 h4
  generalize W * H = z at *
  rw [w64 _ (by omega) (by omega)]
  by_cases h : (n : Int) = z
  · rw [decide_eq_true ⟨h1, h2, h3, h4, h⟩]; simpa using h
  · rw [decide_eq_false (fun hh => h hh.2.2.2.2)]; simpa using h

set_option maxHeartbeats 1000000 in
theorem good_any (W H : Int) (A : Option Addr) (n c : Nat) (w : World) : Calls Tryz.prog 30 #[.agg #[.int .i64 W, .int .i64 H, .slice A n c]] w fun e w' => e = .returned (.bool (goodI W H n)) ∧ Below w.heap.size w w' := by
  go_enter Tryz.func30, Tryz.ntmps30
  go_wp2_with fail
  all_goals
    go_ret
    refine ⟨?_, (Below.refl _ _).alloc (Nat.le_refl _) _⟩
    unfold goodI
    first
      | exact congrArg (fun b => Ending.returned (Value.bool b)) (decide_eq_false (by omega)).symm
      | exact congrArg (fun b => Ending.returned (Value.bool b)) (good_last (by omega) (by omega) (by omega) (by omega))

/-- Two to how many pixels are one. -/
def bitsT (n : Nat) : Nat := if n ≤ 2 then 3 else if n ≤ 4 then 2 else if n ≤ 16 then 1 else 0
theorem bits_any (n : Nat) (w : World) : Calls Tryz.prog 96 #[.int .i64 n] w fun e w' => e = .returned (.int .i64 (bitsT n : Nat)) ∧ w = w' := by
  unfold bitsT
  by_cases h1 : n ≤ 2
  · rw [if_pos h1]
    have h1' : (n : Int) ≤ 2 := by omega
    go_enter Tryz.func96, Tryz.ntmps96
    go_wp2_with fail
    go_ret
    exact ⟨rfl, rfl⟩
  rw [if_neg h1]
  have h1' : ¬ (n : Int) ≤ 2 := by omega
  by_cases h2 : n ≤ 4
  · rw [if_pos h2]
    have h2' : (n : Int) ≤ 4 := by omega
    go_enter Tryz.func96, Tryz.ntmps96
    go_wp2_with fail
    go_ret
    exact ⟨rfl, rfl⟩
  rw [if_neg h2]
  have h2' : ¬ (n : Int) ≤ 4 := by omega
  by_cases h3 : n ≤ 16
  · rw [if_pos h3]
    have h3' : (n : Int) ≤ 16 := by omega
    go_enter Tryz.func96, Tryz.ntmps96
    go_wp2_with fail
    go_ret
    exact ⟨rfl, rfl⟩
  rw [if_neg h3]
  have h3' : ¬ (n : Int) ≤ 16 := by omega
  go_enter Tryz.func96, Tryz.ntmps96
  go_wp2_with fail
  go_ret
  exact ⟨rfl, rfl⟩

def goodT (n : Nat) : Bool := decide (1 ≤ n ∧ n ≤ 256)
theorem goodT_any (A : Option Addr) (n c : Nat) (w : World) : Calls Tryz.prog 95 #[.slice A n c] w fun e w' => e = .returned (.bool (goodT n)) ∧ w = w' := by
  go_enter Tryz.func95, Tryz.ntmps95
  go_wp2_with fail
  all_goals
    go_ret
    refine ⟨?_, rfl⟩
    unfold goodT
    first
      | exact congrArg (fun b => Ending.returned (Value.bool b)) (decide_eq_false (by omega)).symm
      | exact congrArg (fun b => Ending.returned (Value.bool b)) (decide_eq_decide.2 (by omega))

/-- How many blocks cover a side. -/
def blocksI (n : Int) (b : Nat) : Int := (n + 2 ^ b - 1) / 2 ^ b
theorem blocks_any (n : Int) (b : Nat) (w : World) (h0 : 0 ≤ n) (h1 : n ≤ 16777216) (hb : b ≤ 3) : Calls Tryz.prog 83 #[.int .i64 n, .int .i64 b] w fun e w' => e = .returned (.int .i64 (blocksI n b)) ∧ w = w' := by
  unfold blocksI
  match b, hb with
  | 0, _ =>
    go_enter Tryz.func83, Tryz.ntmps83
    go_wp2_with fail
    go_ret
    exact ⟨by simp, rfl⟩
  | 1, _ =>
    go_enter Tryz.func83, Tryz.ntmps83
    go_wp2_with fail
    go_ret
    exact ⟨by simp, rfl⟩
  | 2, _ =>
    go_enter Tryz.func83, Tryz.ntmps83
    go_wp2_with fail
    go_ret
    exact ⟨by simp, rfl⟩
  | 3, _ =>
    go_enter Tryz.func83, Tryz.ntmps83
    go_wp2_with fail
    go_ret
    exact ⟨by simp, rfl⟩

theorem results_tmp4 {fn : Func} {t u v x : Tmp} (h : fn.results = #[.tmp t, .tmp u, .tmp v, .tmp x]) (tmps : Array Value) (P : Program) (w : World) :
    (results fn tmps).run P w = .ok (.tuple #[tmps.getD t undef, tmps.getD u undef, tmps.getD v undef, tmps.getD x undef]) w := by
  simp [results, h]
theorem parts_any (p : Int) (w : World) (h0 : 0 ≤ p) (h1 : p < 4294967296) : Calls Tryz.prog 41 #[.int .u32 p] w fun e w' => e = .returned (.tuple #[.int .u8 (p / 16777216), .int .u8 (p / 65536 % 256), .int .u8 (p / 256 % 256), .int .u8 (p % 256)]) ∧ w = w' := by
  go_enter Tryz.func41, Tryz.ntmps41
  go_wp2_with fail
  refine bodyPost_ret (results_tmp4 rfl _ _ _) rfl ?_
  exact ⟨rfl, rfl⟩
end Go.Proofs.YtodpognmkbjlmaaGreatDoor
