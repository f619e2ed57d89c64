/- What package tree does: cost. -/
import Derived.Test.YtfeloicmkcfinaaDoorTree2
namespace Go.Proofs.YtfeloicmkcfinaaDoor
open Go.RowKit
open Go.Proofs.YtfeloicmkcfinaaDoorW.PrintWords
open Srt

def hasS (ls : List Int) (s : Int) : Bool := decide (0 ≤ s) && decide (s < ls.length) && decide (0 < ln ls s.toNat)
def costS (ls : List Int) (s : Int) : Int := if hasS ls s then (if (oneS ls).2 then 0 else ln ls s.toNat) else 0

set_option maxHeartbeats 400000 in
theorem cost_nil (s : Int) (w : World) :
    Calls Tryd.prog 23 #[.pointer none, .int .i64 s] w fun e w' => e = .returned (.tuple #[.int .i64 0, .bool false]) ∧ w = w' := by
  go_enter Tryd.func23, Tryd.ntmps23
  go_wp2
  go_ret2
  exact ⟨rfl, rfl⟩
set_option maxHeartbeats 1000000 in
theorem cost_any (B hi : Nat) (ls os : List Int) (s : Int) (w : World) (ht : IsTree w B hi ls os) :
    Calls Tryd.prog 23 #[.pointer (some ⟨B, 0, none⟩), .int .i64 s] w fun e w' => e = .returned (.tuple #[.int .i64 (costS ls s), .bool (hasS ls s)]) ∧ w = w' := by
  obtain ⟨_, _, hlb, hc, ho, Al, cl, Ac, cc, Ao, co, hk, r1, r2, r3, _, _, _⟩ := ht
  have hc19 : w.cell? ⟨B, 19, none⟩ = some (.bool (oneS ls).2) := by rw [cell_blk hk]; exact treeCells_one _ _ _ _ _ (by rw [List.length_set, cntK_length])
  have hc0 : w.cell? ⟨B, 0, none⟩ = some (.slice Al ls.length cl) := by rw [cell_blk hk]; rfl
  have HR := Lib.hid r1; have HC := Lib.hid hc
  clear hk r1 r2 r3 hc ho
  by_cases h0 : s < 0
  · have e1 : hasS ls s = false := by simp [hasS]; omega
    have e2 : costS ls s = 0 := by unfold costS; rw [e1]; rfl
    rw [e1, e2]
    have hd : decide (s < 0) = true := by simp [h0]
    clear e1 e2
    go_enter Tryd.func23, Tryd.ntmps23
    go_wp2
    go_ret2
    exact ⟨rfl, rfl⟩
  · by_cases h1 : s < (ls.length : Int)
    · obtain ⟨k, rfl⟩ := Int.eq_ofNat_of_zero_le (show 0 ≤ s by omega)
      obtain ⟨ad, hA, hcell⟩ := ReadsInt.at_ HR.out (k : Int) (by omega) h1
      rw [Int.toNat_natCast, rd_ln] at hcell
      subst hA
      obtain ⟨hl0, hl1⟩ := (complete HC.out).1 k
      have hkt : ((k : Int)).toNat = k := by omega
      by_cases h2 : ln ls k = 0
      · have e1 : hasS ls (k : Int) = false := by unfold hasS; rw [Int.toNat_natCast]; simp; omega
        have e2 : costS ls (k : Int) = 0 := by unfold costS; rw [e1]; rfl
        rw [e1, e2]
        have hb : (ln ls k == 0) = true := by simp [h2]
        clear e1 e2 h2
        go_enter Tryd.func23, Tryd.ntmps23
        go_wp2
        go_ret2
        exact ⟨rfl, rfl⟩
      · have e1 : hasS ls (k : Int) = true := by unfold hasS; rw [Int.toNat_natCast]; simp; omega
        have e2 : costS ls (k : Int) = if (oneS ls).2 then 0 else ln ls k := by unfold costS; rw [e1, Int.toNat_natCast]; rfl
        rw [e1, e2]
        have hb : (ln ls k == 0) = false := by simp [h2]
        clear e1 e2 h2
        generalize (oneS ls).2 = y at *
        cases y
        · go_enter Tryd.func23, Tryd.ntmps23
          go_wp2
          go_ret2
          exact ⟨rfl, rfl⟩
        · go_enter Tryd.func23, Tryd.ntmps23
          go_wp2
          go_ret2
          exact ⟨rfl, rfl⟩
    · have e1 : hasS ls s = false := by simp [hasS]; omega
      have e2 : costS ls s = 0 := by unfold costS; rw [e1]; rfl
      rw [e1, e2]
      have hd : decide (s < 0) = false := by simp; omega
      have hd2 : decide ((ls.length : Int) ≤ s) = true := by simp; omega
      clear e1 e2
      go_enter Tryd.func23, Tryd.ntmps23
      go_wp2
      go_ret2
      exact ⟨rfl, rfl⟩
end Go.Proofs.YtfeloicmkcfinaaDoor
