/- What code.Check, code.One and the reference's Check, One, Codes do. -/
import Derived.Test.YtfeloicmkcfinaaDoorTypes
import Derived.Test.YtfeloicmkcfinaaDoorCodeP
namespace Go.Proofs.YtfeloicmkcfinaaDoor
open Go.RowKit
open Go.Proofs.YtfeloicmkcfinaaDoorW.PrintWords
open Srt

theorem rd_ln (ls : List Int) (k : Nat) : rd ls (k : Int) = ln ls k := by unfold rd ln; rw [Int.toNat_natCast, List.getD_eq_getElem?_getD]

/-- One step of the sums of a check. -/
theorem check_step (ls : List Int) (k : Nat) (hk : k < ls.length) (hb : ls.length ≤ 17592186044416) (h : ¬ ln ls k < 0) (h2 : ¬ 15 < ln ls k) (hp : 0 < ln ls k) :
    wrap64 (krUp ls k + wrap64 (2 ^ (15 - ln ls k).toNat)) = krUp ls (k + 1) ∧ (mnUp ls k : Int) + 1 = mnUp ls (k + 1) := by
  have b := krUp_bounds ls k
  have e : (2 : Int) ^ (15 - ln ls k).toNat = wgt (ln ls k) := by unfold wgt; rw [if_pos hp, show (15 - ln ls k).toNat = 15 - (ln ls k).toNat from by omega]
  have w1 := wgt_le (ln ls k)
  have w0 := wgt_nonneg (ln ls k)
  rw [e, w64 (wgt (ln ls k)) (by omega) (by omega), w64 _ (by omega) (by omega), krUp_succ, mnUp_succ, if_pos hp]
  exact ⟨rfl, by omega⟩
theorem check_skip (ls : List Int) (k : Nat) (hp : ln ls k ≤ 0) : krUp ls (k + 1) = krUp ls k ∧ mnUp ls (k + 1) = mnUp ls k := by
  rw [krUp_succ, mnUp_succ, if_neg (by omega)]
  unfold wgt
  rw [if_neg (by omega)]; simp

set_option maxHeartbeats 1000000 in
theorem check_any (A : Option Addr) (n c : Nat) (ls : List Int) (w : World) (HR : ReadsInt w .i64 A n ls) (hn : n ≤ 17592186044416) :
    Calls Tryd.prog 26 #[.slice A n c] w fun e w' => e = .returned (.int .i64 (checkS ls)) ∧ w = w' := by
  have HRR := Lib.hid HR; have HL := Lib.hid HR.1
  clear HR
  go_enter Tryd.func26, Tryd.ntmps26
  go_wp2
  go_loop [3, 4, 6, 9] (fun s m x i => ∃ k : Nat, k ≤ n ∧ i = .int .i64 k ∧ s = .int .i64 (krUp ls k) ∧ m = .int .i64 (mnUp ls k : Nat) ∧ Hid ((ls.take k).any badLen = false)) (fun _ _ _ i => n - (intOf i).toNat)
  case atStart => exact ⟨0, Nat.zero_le _, rfl, rfl, rfl, rfl⟩
  case round =>
    obtain ⟨k, hk, rfl, rfl, rfl, HB⟩ := hrel
    have hmk := mnUp_le ls k
    by_cases hlt : k < n
    · obtain ⟨ad, hA, hcell⟩ := ReadsInt.at_ HRR.out (k : Int) (by omega) (by omega)
      rw [Int.toNat_natCast, rd_ln] at hcell
      subst hA
      have hkl : k < ls.length := by have := HL.out; omega
      by_cases hbad : badLen (ln ls k) = true
      · have hfin : checkS ls = 8 := by
          unfold checkS
          rw [if_pos]
          rw [List.any_eq_true]
          exact ⟨ln ls k, ln_mem hkl, hbad⟩
        have hb2 : ln ls k < 0 ∨ 15 < ln ls k := by unfold badLen at hbad; simpa using hbad
        have HFIN := Lib.hid hfin
        clear hfin hbad
        by_cases h0 : ln ls k < 0
        · go_wp2
          go_ret
          exact ⟨by rw [HFIN.out]; rfl, rfl⟩
        · have h15 : 15 < ln ls k := by omega
          go_wp2
          go_ret
          exact ⟨by rw [HFIN.out]; rfl, rfl⟩
      · have hb2 : ¬ ln ls k < 0 ∧ ¬ 15 < ln ls k := by unfold badLen at hbad; simp at hbad; omega
        obtain ⟨hb0, hb15⟩ := hb2
        have HB1 : Hid ((ls.take (k + 1)).any badLen = false) := Lib.hid (show (ls.take (k + 1)).any badLen = false from by rw [any_up ls k hkl, HB.out]; simpa using hbad)
        clear hbad
        by_cases hp : 0 < ln ls k
        · obtain ⟨e1, e2⟩ := check_step ls k hkl (by have := HL.out; omega) hb0 hb15 hp
          have E1 := Lib.hid e1; have E2 := Lib.hid e2
          clear e1 e2
          go_wp2
          go_round
          case rel => exact ⟨k + 1, by omega, by go_num, by rw [E1.out], by rw [E2.out], HB1.out⟩
          case measure => simp [intOf]; omega
        · obtain ⟨e1, e2⟩ := check_skip ls k (by omega)
          have E1 := Lib.hid e1; have E2 := Lib.hid e2
          clear e1 e2
          go_wp2
          go_round
          case rel => exact ⟨k + 1, by omega, by go_num, by rw [E1.out], by rw [E2.out], HB1.out⟩
          case measure => simp [intOf]; omega
    · have hkn : k = ls.length := by have := HL.out; omega
      have hfin : checkS ls = if mnUp ls k = 1 ∨ krUp ls k = 32768 then 0 else 3 := by
        unfold checkS
        have hb := HB.out
        rw [hkn, List.take_of_length_le (Nat.le_refl _)] at hb
        rw [if_neg (by rw [hb]; simp), hkn]
        rfl
      have HFIN := Lib.hid hfin
      clear hfin hkn
      by_cases hm : mnUp ls k = 1
      · have hmb : ((mnUp ls k : Int) != 1) = false := by simp; omega
        have HM := Lib.hid hm
        clear hm
        go_wp2
        go_ret
        exact ⟨by rw [HFIN.out, if_pos (.inl HM.out)]; rfl, rfl⟩
      · have hmb : ((mnUp ls k : Int) != 1) = true := by simp; omega
        have HM := Lib.hid hm
        clear hm
        by_cases hs : krUp ls k = 32768
        · have hsb : (krUp ls k != 32768) = false := by simp [hs]
          have HS := Lib.hid hs
          clear hs
          go_wp2
          go_ret
          exact ⟨by rw [HFIN.out, if_pos (.inr HS.out)]; rfl, rfl⟩
        · have hsb : (krUp ls k != 32768) = true := by simp [hs]
          have HS := Lib.hid hs
          clear hs
          go_wp2
          go_ret
          exact ⟨by rw [HFIN.out, if_neg (by have := HM.out; have := HS.out; omega)]; rfl, rfl⟩

end Go.Proofs.YtfeloicmkcfinaaDoor
