/- The reference's Same, of the same bytes; its Plane. -/
import Derived.Test.YtodpognmkbjlmaaGreatDoorTab2P
import Derived.BigQuiet
namespace Go.Proofs.YtodpognmkbjlmaaGreatDoor
open Go.RowKit
open Go.Proofs.YtodpognmkbjlmaaGreatDoorW.PrintWords

set_option maxHeartbeats 1000000 in
theorem bytes_same (A B : Option Addr) (n c d : Nat) (xs : List Int) (w : World) (HR : ReadsInt w .u8 A n xs) (HS : ReadsInt w .u8 B n xs) :
    Calls Tryz.prog 9 #[.slice A n c, .slice B n d] w fun e w' => e = .returned (.bool true) ∧ Below w.heap.size w w' := by
  have HRR := Lib.hid HR; have HSS := Lib.hid HS
  have hmx := HR.2.1
  clear HR HS
  go_enter Tryz.func9, Tryz.ntmps9
  go_wp2_with fail
  go_loopw [5] (fun i wr => ∃ k : Nat, k ≤ n ∧ i = .int .i64 k ∧ Hid (∃ q, wr = w.drewN q)) (fun i _ => n - (intOf i).toNat)
  case atStart => exact ⟨0, Nat.zero_le _, rfl, 0, rfl⟩
  case round =>
    obtain ⟨k, hk, rfl, HQ⟩ := hrel
    by_cases hlt : k < n
    · obtain ⟨ad, hA, hcell⟩ := ReadsInt.at_ HRR.out (k : Int) (by omega) (by omega)
      obtain ⟨bd, hB, hcelb⟩ := ReadsInt.at_ HSS.out (k : Int) (by omega) (by omega)
      rw [Int.toNat_natCast] at hcell hcelb
      subst hA hB
      have hc1 : wr.cell? (ad.add k) = some (.int .u8 (rd xs k)) := by obtain ⟨q, e⟩ := HQ.out; rw [e]; simpa using hcell
      have hc2 : wr.cell? (bd.add k) = some (.int .u8 (rd xs k)) := by obtain ⟨q, e⟩ := HQ.out; rw [e]; simpa using hcelb
      clear hcell hcelb
      generalize rd xs (k : Int) = x at *
      go_wp2_with fail
      go_quiet (fail)
      go_wp2_with fail
      go_roundw
      case rel => exact ⟨k + 1, by omega, by go_num, by obtain ⟨q, e⟩ := HQ.out; exact ⟨q + nq, by rw [e, World.drewN_drewN]⟩⟩
      case measure => simp [intOf]; omega
    · have hkk : k = n := by omega
      subst hkk
      go_wp2_with fail
      go_ret
      refine ⟨rfl, ?_⟩
      obtain ⟨q, e⟩ := HQ.out
      rw [e]; exact ⟨rfl, rfl, rfl, Nat.le_refl _, fun _ _ => rfl⟩

theorem refPlane_any (W H : Int) (A : Option Addr) (n c : Nat) (w : World) : Calls Tryz.prog 8 #[.agg #[.int .i64 W, .int .i64 H, .slice A n c]] w fun e w' => e = .returned (.bool (goodI W H n)) ∧ Below w.heap.size w w' := by
  go_enter Tryz.func8, Tryz.ntmps8
  go_wp2_with fail
  all_goals
    go_ret
    refine ⟨?_, (Below.refl _ _).alloc (Nat.le_refl _) _⟩
    unfold goodI
    first
      | exact congrArg (fun b => Ending.returned (Value.bool b)) (decide_eq_false (by omega)).symm
      | exact congrArg (fun b => Ending.returned (Value.bool b)) (good_last (by omega) (by omega) (by omega) (by omega))
end Go.Proofs.YtodpognmkbjlmaaGreatDoor
