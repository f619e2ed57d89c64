/- A pixel of four bytes, plainly. -/
import Derived.Test.YtodpognmkbjlmaaGreatDoorTab2P
namespace Go.Proofs.YtodpognmkbjlmaaGreatDoor
open Go.RowKit

/-- A pixel's part. -/
def partP (p : Int) (k : Nat) : Int := p / 2 ^ (24 - 8 * k) % 256
/-- A pixel of four. -/
def mk4 (a b c d : Int) : Int := a % 256 * 16777216 + b % 256 * 65536 + c % 256 * 256 + d % 256
def mkS (a b c d : Int) : Nat → Int
  | 0 => 0
  | 1 => a % 256
  | 2 => a % 256 * 256 + b % 256
  | 3 => a % 256 * 65536 + b % 256 * 256 + c % 256
  | _ => mk4 a b c d
theorem mkS_step {a b c d x : Int} (k : Nat) (hk : k < 4) (hx : x = #[a, b, c, d].getD k 0) : IntKind.u32.wrap (IntKind.u32.wrap (mkS a b c d k * 256) + x % 256) = mkS a b c d (k + 1) := by
  have h : k = 0 ∨ k = 1 ∨ k = 2 ∨ k = 3 := by omega
  rcases h with rfl | rfl | rfl | rfl
  all_goals
    simp [mkS, mk4, IntKind.wrap, IntKind.bits, IntKind.signed] at hx ⊢
    subst hx
    omega

theorem mkS_lt (a b c d : Int) {k : Nat} (hk : k < 4) : 0 ≤ mkS a b c d k ∧ mkS a b c d k < 16777216 := by
  have h : k = 0 ∨ k = 1 ∨ k = 2 ∨ k = 3 := by omega
  rcases h with rfl | rfl | rfl | rfl
  all_goals
    simp only [mkS]
    omega

theorem partP_lt (p : Int) (k : Nat) : 0 ≤ partP p k ∧ partP p k < 256 := by
  unfold partP
  exact ⟨Int.emod_nonneg _ (by omega), Int.emod_lt_of_pos _ (by omega)⟩
theorem mk4_lt (a b c d : Int) : 0 ≤ mk4 a b c d ∧ mk4 a b c d < 4294967296 := by
  unfold mk4; omega
end Go.Proofs.YtodpognmkbjlmaaGreatDoor
