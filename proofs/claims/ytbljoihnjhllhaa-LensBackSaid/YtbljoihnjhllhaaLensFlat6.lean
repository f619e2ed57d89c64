/- What code.Check, code.One and the reference's Check, One, Codes do. -/
import Derived.Test.YtbljoihnjhllhaaLensFlat4
import Derived.Test.YtbljoihnjhllhaaLensFlat2
import Derived.Test.YtbljoihnjhllhaaLensFlat1
namespace Go.Proofs.Ytbljoihnjhllhaa
open Go.RowKit
open Go.Proofs.YtbljoihnjhllhaaW.PrintWords
open Srt

theorem rd_ln (ls : List Int) (k : Nat) : rd ls (k : Int) = ln ls k := by unfold rd ln; rw [Int.toNat_natCast, List.getD_eq_getElem?_getD]

/-- One step of the sums of a check. -/
theorem check_step (ls : List Int) (k : Nat) (hk : k < ls.length) (hb : ls.length ≤ 17592186044416) (h : ¬ ln ls k < 0) (h2 : ¬ 15 < ln ls k) (hp : 0 < ln ls k) :
    wrap64 (krUp ls k + wrap64 (2 ^ (15 - ln ls k).toNat)) = krUp ls (k + 1) ∧ (mnUp ls k : Int) + 1 = mnUp ls (k + 1) := by
  have b := krUp_bounds ls k
  have e : (2 : Int) ^ (15 - ln ls k).toNat = wgt (ln ls k) := by unfold wgt; rw [if_pos hp, show (15 - ln ls k).toNat = 15 - (ln ls k).toNat from by omega]
  have w1 := wgt_le (ln ls k)
  have w0 := wgt_nonneg (ln ls k)
  rw [e, w64 (wgt (ln ls k)) (by omega) (by omega), w64 _ (by omega) (by omega), krUp_succ, mnUp_succ, if_pos hp]
  exact ⟨rfl, by omega⟩
theorem check_skip (ls : List Int) (k : Nat) (hp : ln ls k ≤ 0) : krUp ls (k + 1) = krUp ls k ∧ mnUp ls (k + 1) = mnUp ls k := by
  rw [krUp_succ, mnUp_succ, if_neg (by omega)]
  unfold wgt
  rw [if_neg (by omega)]; simp

set_option maxHeartbeats 1000000 in
theorem check_any (A : Option Addr) (n c : Nat) (ls : List Int) (w : World) (HR : ReadsInt w .i64 A n ls) (hn : n ≤ 17592186044416) :
    Calls Try.prog 18 #[.slice A n c] w fun e w' => e = .returned (.int .i64 (checkS ls)) ∧ w = w' := by
  have HRR := Lib.hid HR; have HL := Lib.hid HR.1
  clear HR
  go_enter Try.func18, Try.ntmps18
  go_wp2
  go_loop [3, 4, 6, 9] (fun s m x i => ∃ k : Nat, k ≤ n ∧ i = .int .i64 k ∧ s = .int .i64 (krUp ls k) ∧ m = .int .i64 (mnUp ls k : Nat) ∧ Hid ((ls.take k).any badLen = false)) (fun _ _ _ i => n - (intOf i).toNat)
  case atStart => exact ⟨0, Nat.zero_le _, rfl, rfl, rfl, rfl⟩
  case round =>
    obtain ⟨k, hk, rfl, rfl, rfl, HB⟩ := hrel
    have hmk := mnUp_le ls k
    by_cases hlt : k < n
    · obtain ⟨ad, hA, hcell⟩ := ReadsInt.at_ HRR.out (k : Int) (by omega) (by omega)
      rw [Int.toNat_natCast, rd_ln] at hcell
      subst hA
      have hkl : k < ls.length := by have := HL.out; omega
      by_cases hbad : badLen (ln ls k) = true
      · have hfin : checkS ls = 8 := by
          unfold checkS
          rw [if_pos]
          rw [List.any_eq_true]
          exact ⟨ln ls k, ln_mem hkl, hbad⟩
        have hb2 : ln ls k < 0 ∨ 15 < ln ls k := by unfold badLen at hbad; simpa using hbad
        have HFIN := Lib.hid hfin
        clear hfin hbad
        by_cases h0 : ln ls k < 0
        · go_wp2
          go_ret
          exact ⟨by rw [HFIN.out]; rfl, rfl⟩
        · have h15 : 15 < ln ls k := by omega
          go_wp2
          go_ret
          exact ⟨by rw [HFIN.out]; rfl, rfl⟩
      · have hb2 : ¬ ln ls k < 0 ∧ ¬ 15 < ln ls k := by unfold badLen at hbad; simp at hbad; omega
        obtain ⟨hb0, hb15⟩ := hb2
        have HB1 : Hid ((ls.take (k + 1)).any badLen = false) := Lib.hid (show (ls.take (k + 1)).any badLen = false from by rw [any_up ls k hkl, HB.out]; simpa using hbad)
        clear hbad
        by_cases hp : 0 < ln ls k
        · obtain ⟨e1, e2⟩ := check_step ls k hkl (by have := HL.out; omega) hb0 hb15 hp
          have E1 := Lib.hid e1; have E2 := Lib.hid e2
          clear e1 e2
          go_wp2
          go_round
          case rel => exact ⟨k + 1, by omega, by go_num, by rw [E1.out], by rw [E2.out], HB1.out⟩
          case measure => simp [intOf]; omega
        · obtain ⟨e1, e2⟩ := check_skip ls k (by omega)
          have E1 := Lib.hid e1; have E2 := Lib.hid e2
          clear e1 e2
          go_wp2
          go_round
          case rel => exact ⟨k + 1, by omega, by go_num, by rw [E1.out], by rw [E2.out], HB1.out⟩
          case measure => simp [intOf]; omega
    · have hkn : k = ls.length := by have := HL.out; omega
      have hfin : checkS ls = if mnUp ls k = 1 ∨ krUp ls k = 32768 then 0 else 3 := by
        unfold checkS
        have hb := HB.out
        rw [hkn, List.take_of_length_le (Nat.le_refl _)] at hb
        rw [if_neg (by rw [hb]; simp), hkn]
        rfl
      have HFIN := Lib.hid hfin
      clear hfin hkn
      by_cases hm : mnUp ls k = 1
      · have hmb : ((mnUp ls k : Int) != 1) = false := by simp; omega
        have HM := Lib.hid hm
        clear hm
        go_wp2
        go_ret
        exact ⟨by rw [HFIN.out, if_pos (.inl HM.out)]; rfl, rfl⟩
      · have hmb : ((mnUp ls k : Int) != 1) = true := by simp; omega
        have HM := Lib.hid hm
        clear hm
        by_cases hs : krUp ls k = 32768
        · have hsb : (krUp ls k != 32768) = false := by simp [hs]
          have HS := Lib.hid hs
          clear hs
          go_wp2
          go_ret
          exact ⟨by rw [HFIN.out, if_pos (.inr HS.out)]; rfl, rfl⟩
        · have hsb : (krUp ls k != 32768) = true := by simp [hs]
          have HS := Lib.hid hs
          clear hs
          go_wp2
          go_ret
          exact ⟨by rw [HFIN.out, if_neg (by have := HM.out; have := HS.out; omega)]; rfl, rfl⟩

set_option maxHeartbeats 1000000 in
theorem refOne_any (A : Option Addr) (n c : Nat) (ls : List Int) (w : World) (HR : ReadsInt w .i64 A n ls) (hn : n ≤ 17592186044416) :
    Calls Try.prog 39 #[.slice A n c] w fun e w' => e = .returned (.tuple #[.int .i64 (oneS ls).1, .bool (oneS ls).2]) ∧ w = w' := by
  have HRR := Lib.hid HR; have HL := Lib.hid HR.1
  clear HR
  go_enter Try.func39, Try.ntmps39
  go_wp2
  go_loop [4, 5, 6] (fun a m i => ∃ k : Nat, k ≤ n ∧ i = .int .i64 k ∧ a = .int .i64 (hd0 (nzUp ls k) : Nat) ∧ m = .int .i64 ((nzUp ls k).length : Nat)) (fun _ _ i => n - (intOf i).toNat)
  case atStart => exact ⟨0, Nat.zero_le _, rfl, rfl, rfl⟩
  case round =>
    obtain ⟨k, hk, rfl, rfl, rfl⟩ := hrel
    have hmk := nzUp_le ls k
    by_cases hlt : k < n
    · obtain ⟨ad, hA, hcell⟩ := ReadsInt.at_ HRR.out (k : Int) (by omega) (by omega)
      rw [Int.toNat_natCast, rd_ln] at hcell
      subst hA
      by_cases hz : ln ls k = 0
      · have hzb : (ln ls k != 0) = false := by simp [hz]
        have HS := Lib.hid (nzUp_miss ls k hz)
        clear hz
        go_wp2
        go_round
        case rel => exact ⟨k + 1, by omega, by go_num, by rw [HS.out], by rw [HS.out]⟩
        case measure => simp [intOf]; omega
      · have hzb : (ln ls k != 0) = true := by simp [hz]
        have HS := Lib.hid (nzUp_hit ls k hz)
        clear hz
        cases hl : nzUp ls k with
        | nil =>
          have HS2 := Lib.hid (show nzUp ls (k + 1) = [k] from by rw [HS.out, hl]; rfl)
          rw [hl] at hmk
          clear hl
          go_wp2
          go_round
          case rel => exact ⟨k + 1, by omega, by go_num, by rw [HS2.out]; rfl, by rw [HS2.out]; rfl⟩
          case measure => simp [intOf]; omega
        | cons t l =>
          have HS2 := Lib.hid (show nzUp ls (k + 1) = t :: (l ++ [k]) from by rw [HS.out, hl]; rfl)
          have HQ := Lib.hid (show (nzUp ls (k + 1)).length = l.length + 1 + 1 from by rw [HS.out, hl]; simp)
          rw [hl] at hmk
          clear hl
          have hne : (((t :: l).length : Int) == 0) = false := by simp; omega
          have hle : (t :: l).length = l.length + 1 := rfl
          rw [hle] at hne hmk ⊢
          generalize l.length = q at *
          go_wp2
          go_round
          case rel => exact ⟨k + 1, by omega, by go_num, by rw [HS2.out]; rfl, by rw [HQ.out]; go_num⟩
          case measure => simp [intOf]; omega
    · have hkn : k = ls.length := by have := HL.out; omega
      subst hkn
      by_cases h1 : (nzUp ls ls.length).length = 1
      · have hb : (((nzUp ls ls.length).length : Int) != 1) = false := by simp; omega
        have HF := Lib.hid (oneOf_one _ h1)
        clear h1
        go_wp2
        go_ret2
        exact ⟨by rw [oneS_up, HF.out]; rfl, rfl⟩
      · have hb : (((nzUp ls ls.length).length : Int) != 1) = true := by simp; omega
        have HF := Lib.hid (oneOf_not _ h1)
        clear h1
        go_wp2
        go_ret2
        exact ⟨by rw [oneS_up, HF.out]; rfl, rfl⟩

set_option maxHeartbeats 1000000 in
theorem refCodes_any (A : Option Addr) (n c : Nat) (ls : List Int) (w : World) (HR : ReadsInt w .i64 A n ls) (hn : n ≤ 17592186044416) (hc : checkS ls = 0) :
    Calls Try.prog 27 #[.slice A n c] w fun e w' => e = .returned (.slice (some ⟨w.heap.size, 0, none⟩) n n) ∧ w'.ownsRow w.heap.size 31 1 (.slice (some ⟨w.heap.size, 0, none⟩) n n) n (nums .u32 (codesS ls)) ∧ Below w.heap.size w w' := by
  have HRR := Lib.hid HR; have HL := Lib.hid HR.1; have HC := Lib.hid hc
  clear HR hc
  have hmk := print_make (P := Try.prog) 56 31 .u32 4 Try.underlying56 info_u32 (by decide) n (by omega)
  go_enter Try.func27, Try.ntmps27
  go_wp2
  have hO0 : ((w.alloc (.cells (madeCells #[.int .u32 0] n) 31)).ownsRow w.heap.size 31 1 (.slice (some ⟨w.heap.size, 0, none⟩) n n) n (nums .u32 (rowAt ls 1 0))) := by
    rw [rowAt_start, HL.out]; exact own_made w w.heap.size 31 .u32 n (Nat.le_refl _) (by omega)
  have HO0 := Lib.hid hO0
  have HB0 := Lib.hid ((Below.refl w.heap.size w).alloc (Nat.le_refl _) (.cells (madeCells #[.int .u32 0] n) 31))
  clear hO0 hmk
  generalize hw1 : w.alloc (.cells (madeCells #[.int .u32 0] n) 31) = w1 at *
  generalize hg : w.heap.size = g at *
  have HW1 := Lib.hid hw1; have HG := Lib.hid hg
  clear hw1 hg
  go_loopw [4, 5, 6, 7] (fun cd f N i wr => ∃ (m : Nat) (b : Bool) (x : Int), 1 ≤ m ∧ m ≤ 16 ∧ N = .int .i64 m ∧ f = .bool b ∧ cd = .int .u32 x ∧ 0 ≤ x ∧ x ≤ 32768 ∧ Hid (x = upTo ls ((m : Int) - 1) ls.length) ∧ Hid (b = true → x = 0) ∧ Hid (wr.ownsRow g 31 1 (.slice (some ⟨g, 0, none⟩) n n) n (nums .u32 (rowAt ls m 0))) ∧ Hid (Below g w wr)) (fun _ _ N _ _ => (16 - intOf N).toNat)
  case atStart => exact ⟨1, true, 0, by omega, by omega, rfl, rfl, rfl, by omega, by omega, (upTo_zero ls).symm, fun _ => rfl, HO0.out, HB0.out⟩
  case round =>
    obtain ⟨m, b, x, hm1, hm2, rfl, rfl, rfl, hx0, hx1, HX, HF, HO, HB⟩ := hrel
    by_cases hlt : m ≤ 15
    · obtain ⟨wo, hwo⟩ : ∃ wo : World, wo = wr := ⟨_, rfl⟩
      subst hwo
      have hx2 : upTo ls m 0 = x * 2 := by
        have := upTo_next ls ((m : Int) - 1)
        rw [show (m : Int) - 1 + 1 = m from by omega] at this
        rw [this, HX.out]
      have hx3 := upTo_lt HC.out m 0 hlt
      rw [hx2] at hx3
      have HX2 := Lib.hid hx2
      clear hx2
      go_wp2
      go_loopw [4, 5, 7] (fun cd f i wr => ∃ (k : Nat) (b : Bool) (x : Int), k ≤ n ∧ i = .int .i64 k ∧ f = .bool b ∧ cd = .int .u32 x ∧ 0 ≤ x ∧ x ≤ 32768 ∧ Hid (x = upTo ls m k) ∧ Hid (b = true → x = 0) ∧ Hid (wr.ownsRow g 31 1 (.slice (some ⟨g, 0, none⟩) n n) n (nums .u32 (rowAt ls m k))) ∧ Hid (Below g w wr)) (fun _ _ i _ => n - (intOf i).toNat)
      case atStart => exact ⟨0, b, x * 2, by omega, rfl, rfl, rfl, by omega, by omega, HX2.out.symm, fun h => by have := HF.out h; omega, HO.out, HB.out⟩
      case round =>
        obtain ⟨k, b, x, hk, rfl, rfl, rfl, hx0, hx1, HX, HF, HO, HB⟩ := hrel
        by_cases hlt2 : k < n
        · obtain ⟨ad, hA, hcell0⟩ := ReadsInt.at_ HRR.out (k : Int) (by omega) (by omega)
          have hcell := pw_cell_below (w1 := wr) (by rw [HG.out]; exact HB.out) hcell0
          rw [Int.toNat_natCast, rd_ln] at hcell
          clear hcell0
          have hkl : k < ls.length := by have := HL.out; omega
          obtain ⟨hc1, hf1⟩ := own_at HO.out (k : Int) (by omega) (by omega)
          rw [Int.toNat_natCast] at hc1 hf1
          subst hA
          by_cases he : ln ls k = m
          · have heb : (ln ls k == (m : Int)) = true := by simp [he]
            have hnx : upTo ls m (k + 1) = x + 1 := by rw [upTo_hit ls m k hkl (by omega) he, HX.out]
            have hcd : codeS ls k = x := by rw [HX.out, ← upTo_code ls k, he]
            have hle := upTo_lt HC.out m (k + 1) hlt
            rw [hnx] at hle
            have hrow : (wr.setCell ⟨g, k, none⟩ (.int .u32 x)).ownsRow g 31 1 (.slice (some ⟨g, 0, none⟩) n n) n (nums .u32 (rowAt ls m (k + 1))) := by
              have h := (own_store HO.out (k : Int) x).1
              rw [Int.toNat_natCast, ← hcd, rowAt_hit ls m k hkl (by omega) he] at h
              rw [← hcd]; exact h
            have HROW := Lib.hid hrow; have HNX := Lib.hid hnx
            have HMB := Lib.hid (HB.out.setCell (p := ⟨g, k, none⟩) (Nat.le_refl g) (.int .u32 x))
            clear hrow hnx hcd he
            cases b
            · go_wp2
              go_roundw
              case rel => exact ⟨k + 1, false, x + 1, by omega, by go_num, rfl, rfl, by omega, by omega, HNX.out.symm, fun h => by simp at h, HROW.out, HMB.out⟩
              case measure => simp [intOf]; omega
            · have hx00 : x = 0 := HF.out rfl
              subst hx00
              go_wp2
              go_roundw
              case rel => exact ⟨k + 1, false, 0 + 1, by omega, by go_num, rfl, rfl, by omega, by omega, HNX.out.symm, fun h => by simp at h, HROW.out, HMB.out⟩
              case measure => simp [intOf]; omega
          · have heb : (ln ls k == (m : Int)) = false := by simp [he]
            have HNX := Lib.hid (upTo_miss ls m k he); have HRM := Lib.hid (rowAt_miss ls m k he)
            clear he
            go_wp2
            go_roundw
            case rel => exact ⟨k + 1, b, x, by omega, by go_num, rfl, rfl, by omega, by omega, by show _ = _; rw [HNX.out, HX.out], HF.out, by show World.ownsRow _ _ _ _ _ _ _; rw [HRM.out]; exact HO.out, HB.out⟩
            case measure => simp [intOf]; omega
        · have hkn : k = ls.length := by have := HL.out; omega
          have HR1 := Lib.hid (show wr.ownsRow g 31 1 (.slice (some ⟨g, 0, none⟩) n n) n (nums .u32 (rowAt ls ((m + 1 : Nat) : Int) 0)) from by
            have h := HO.out
            rw [hkn, rowAt_next] at h
            simpa using h)
          have HX1 := Lib.hid (show x = upTo ls (((m + 1 : Nat) : Int) - 1) ls.length from by rw [HX.out, hkn]; congr 1; omega)
          clear hkn
          go_wp2
          go_roundw
          case rel => exact ⟨m + 1, b, x, by omega, by omega, by go_num, rfl, rfl, by omega, by omega, HX1.out, HF.out, HR1.out, HB.out⟩
          case measure => simp [intOf]; omega
    · have hm16 : m = 16 := by omega
      subst hm16
      have HR1 := Lib.hid (show wr.ownsRow g 31 1 (.slice (some ⟨g, 0, none⟩) n n) n (nums .u32 (codesS ls)) from by
        have h := HO.out
        rw [show ((16 : Nat) : Int) = 16 from rfl, rowAt_done HC.out] at h
        exact h)
      go_wp2
      go_ret
      rw [HG.out]
      exact ⟨rfl, HR1.out, HB.out⟩

set_option maxHeartbeats 1000000 in
theorem refCheck_any (A : Option Addr) (n c : Nat) (ls : List Int) (w : World) (HR : ReadsInt w .i64 A n ls) (hn : n ≤ 17592186044416) :
    Calls Try.prog 8 #[.slice A n c] w fun e w' => e = .returned (.int .i64 (checkS ls)) ∧ w = w' := by
  have HRR := Lib.hid HR; have HL := Lib.hid HR.1
  clear HR
  go_enter Try.func8, Try.ntmps8
  go_wp2
  go_loop [3, 4, 5, 6, 7] (fun s m i pt j => ∃ k : Nat, k ≤ n ∧ i = .int .i64 k ∧ s = .int .i64 (krUp ls k) ∧ m = .int .i64 (mnUp ls k : Nat) ∧ Hid ((ls.take k).any badLen = false)) (fun _ _ i _ _ => n - (intOf i).toNat)
  case atStart => exact ⟨0, Nat.zero_le _, rfl, rfl, rfl, rfl⟩
  case round =>
    obtain ⟨k, hk, rfl, rfl, rfl, HB⟩ := hrel
    have hmk := mnUp_le ls k
    by_cases hlt : k < n
    · obtain ⟨ad, hA, hcell⟩ := ReadsInt.at_ HRR.out (k : Int) (by omega) (by omega)
      rw [Int.toNat_natCast, rd_ln] at hcell
      subst hA
      have hkl : k < ls.length := by have := HL.out; omega
      by_cases hbad : badLen (ln ls k) = true
      · have hfin : checkS ls = 8 := by
          unfold checkS
          rw [if_pos]
          rw [List.any_eq_true]
          exact ⟨ln ls k, ln_mem hkl, hbad⟩
        have hb2 : ln ls k < 0 ∨ 15 < ln ls k := by unfold badLen at hbad; simpa using hbad
        have HFIN := Lib.hid hfin
        clear hfin hbad
        by_cases h0 : ln ls k < 0
        · go_wp2
          go_ret
          exact ⟨by rw [HFIN.out]; rfl, rfl⟩
        · have h15 : 15 < ln ls k := by omega
          go_wp2
          go_ret
          exact ⟨by rw [HFIN.out]; rfl, rfl⟩
      · have hb2 : ¬ ln ls k < 0 ∧ ¬ 15 < ln ls k := by unfold badLen at hbad; simp at hbad; omega
        obtain ⟨hb0, hb15⟩ := hb2
        have HB1 : Hid ((ls.take (k + 1)).any badLen = false) := Lib.hid (show (ls.take (k + 1)).any badLen = false from by rw [any_up ls k hkl, HB.out]; simpa using hbad)
        clear hbad
        by_cases hp : 0 < ln ls k
        · have e1 : krUp ls (k + 1) = krUp ls k + 32768 / 2 ^ (ln ls k).toNat := by
            rw [krUp_succ]
            unfold wgt
            rw [if_pos hp]
            have : (32768 : Int) = 2 ^ (15 - (ln ls k).toNat) * 2 ^ (ln ls k).toNat := by rw [← Int.pow_add, show 15 - (ln ls k).toNat + (ln ls k).toNat = 15 from by omega]; rfl
            rw [this, Int.mul_ediv_cancel _ (Int.ne_of_gt (Int.pow_pos (by decide)))]
          have e2 : mnUp ls (k + 1) = mnUp ls k + 1 := by rw [mnUp_succ, if_pos hp]
          have E1 := Lib.hid e1; have E2 := Lib.hid e2
          have bk := krUp_bounds ls k
          clear e1 e2
          go_wp2
          go_loop [6, 7] (fun pt j => ∃ (x : Int) (q : Nat), pt = .int .i64 x ∧ j = .int .i64 q ∧ (q : Int) ≤ ln ls k ∧ 0 ≤ x ∧ x ≤ 32768 ∧ Hid (x = 32768 / 2 ^ q)) (fun _ j => (ln ls k - intOf j).toNat)
          case atStart => exact ⟨32768, 0, rfl, rfl, by omega, by omega, by omega, by show _ = _; simp⟩
          case round =>
            obtain ⟨x, q, rfl, rfl, hq, hx0, hx1, HX⟩ := hrel
            by_cases hq2 : (q : Int) < ln ls k
            · go_wp2
              go_round
              case rel => exact ⟨x / 2, q + 1, rfl, by go_num, by omega, by omega, by omega, by show _ = _; rw [HX.out, Int.pow_succ, Int.ediv_ediv_of_nonneg (Int.le_of_lt (Int.pow_pos (by decide)))]⟩
              case measure => simp [intOf]; omega
            · have hqe : q = (ln ls k).toNat := by omega
              have HX2 := Lib.hid (show krUp ls (k + 1) = krUp ls k + x from by rw [E1.out, HX.out, hqe])
              clear hqe
              go_wp2
              go_round
              case rel => exact ⟨k + 1, by omega, by go_num, by rw [HX2.out], by rw [E2.out]; go_num, HB1.out⟩
              case measure => simp [intOf]; omega
        · obtain ⟨e1, e2⟩ := check_skip ls k (by omega)
          have E1 := Lib.hid e1; have E2 := Lib.hid e2
          clear e1 e2
          go_wp2
          go_round
          case rel => exact ⟨k + 1, by omega, by go_num, by rw [E1.out], by rw [E2.out], HB1.out⟩
          case measure => simp [intOf]; omega
    · have hkn : k = ls.length := by have := HL.out; omega
      have hfin : checkS ls = if mnUp ls k = 1 ∨ krUp ls k = 32768 then 0 else 3 := by
        unfold checkS
        have hb := HB.out
        rw [hkn, List.take_of_length_le (Nat.le_refl _)] at hb
        rw [if_neg (by rw [hb]; simp), hkn]
        rfl
      have HFIN := Lib.hid hfin
      clear hfin hkn
      by_cases hm : mnUp ls k = 1
      · have hmb : ((mnUp ls k : Int) == 1) = true := by simp; omega
        have HM := Lib.hid hm
        clear hm
        go_wp2
        go_ret
        exact ⟨by rw [HFIN.out, if_pos (.inl HM.out)]; rfl, rfl⟩
      · have hmb : ((mnUp ls k : Int) == 1) = false := by simp; omega
        have HM := Lib.hid hm
        clear hm
        by_cases hs : krUp ls k = 32768
        · have hsb : (krUp ls k == 32768) = true := by simp [hs]
          have HS := Lib.hid hs
          clear hs
          go_wp2
          go_ret
          exact ⟨by rw [HFIN.out, if_pos (.inr HS.out)]; rfl, rfl⟩
        · have hsb : (krUp ls k == 32768) = false := by simp [hs]
          have HS := Lib.hid hs
          clear hs
          go_wp2
          go_ret
          exact ⟨by rw [HFIN.out, if_neg (by have := HM.out; have := HS.out; omega)]; rfl, rfl⟩
end Go.Proofs.Ytbljoihnjhllhaa

/- What the library's stable sort does with symbols by their lengths (code.Order's comparison). -/
namespace Go.Proofs.Ytbljoihnjhllhaa
open Go.RowKit
open Go.Proofs.YtbljoihnjhllhaaW.PrintWords
open Srt

/-- What code.Order's comparison leans on: block B holds the lengths' slice; a symbol is good if it is one of them and has a length. -/
structure CmpI (w : World) (B : Nat) (A : Option Addr) (n c : Nat) (ls : List Int) : Prop where
  box : w.cell? ⟨B, 0, none⟩ = some (.slice A n c)
  reads : ReadsInt w .i64 A n ls
def GoodI (ls : List Int) (x : Int) : Prop := 0 ≤ x ∧ x < ls.length ∧ 1 ≤ rd ls x ∧ rd ls x ≤ 9223372036854775807
theorem CmpI.mods {S : List Nat} {w w' : World} {B : Nat} {A : Option Addr} {n c : Nat} {ls : List Int} (h : CmpI w B A n c ls) (hm : Mods S w w') (hB : B ∉ S) (hA : ∀ ad, A = some ad → ad.block ∉ S) : CmpI w' B A n c ls :=
  ⟨(World.cell?_of_block (w := w) (hm.block B (World.block_lt_of_cell? w _ h.box) hB)).trans h.box, ReadsInt.mods h.reads hm hA⟩

set_option maxHeartbeats 400000 in
theorem order1 (B : Nat) (A : Option Addr) (n c : Nat) (ls : List Int) (x y : Int) (w : World) (h : CmpI w B A n c ls) (hx : GoodI ls x) (hy : GoodI ls y) :
    Calls Try.prog 33 #[.int .i64 x, .int .i64 y, .pointer (some ⟨B, 0, none⟩)] w fun e w' => e = .returned (.int .i64 (rd ls x - rd ls y)) ∧ ∃ m, w' = w.drewN m := by
  obtain ⟨hb, hr⟩ := h
  have hl := hr.1
  obtain ⟨hx0, hx1, hx2, hx3⟩ := hx
  obtain ⟨hy0, hy1, hy2, hy3⟩ := hy
  have hxn : x < (n : Int) := by omega
  have hyn : y < (n : Int) := by omega
  obtain ⟨ad, rfl, hcx⟩ := hr.at_ x hx0 hxn
  obtain ⟨ad', h', hcy⟩ := hr.at_ y hy0 hyn
  injection h' with h'
  subst h'
  clear hr hl
  generalize rd ls x = kx at *
  generalize rd ls y = ky at *
  go_enter Try.func33, Try.ntmps33
  go_wp2
  go_quiet (fail)
  go_wp2
  go_ret
  exact ⟨rfl, _, rfl⟩

/-- The row that is sorted: block b, the call's own. -/
def RowI (w : World) (base b n cap : Nat) (xs : List Int) : Prop := w.ownsRow base 3 1 (.slice (some ⟨b, 0, none⟩) n cap) n (nums .i64 xs)

theorem RowI.length {w : World} {base b n cap : Nat} {xs : List Int} (H : RowI w base b n cap xs) : xs.length = n := by have := H.1; simpa [nums] using this
theorem RowI.set {w : World} {base b n cap : Nat} {xs : List Int} (H : RowI w base b n cap xs) (i : Nat) (x : Int) : RowI (w.setCell ⟨b, i, none⟩ (.int .i64 x)) base b n cap (xs.set i x) := by
  have := (own_store H (i : Int) x).1
  rwa [Int.toNat_natCast] at this
theorem RowI.drew {w : World} {base b n cap : Nat} {xs : List Int} (H : RowI w base b n cap xs) : RowI w.drew base b n cap xs := World.ownsRow.drew H
theorem RowI.mods {S : List Nat} {w w' : World} {base b n cap : Nat} {xs : List Int} (H : RowI w base b n cap xs) (hm : Mods S w w') (hb : b ∉ S) : RowI w' base b n cap xs := by
  refine ⟨H.1, ?_⟩
  rcases H.2 with ⟨h', _⟩ | ⟨g, c, cur, h', h1, h2, h3⟩
  · cases h'
  · injection h' with h4 h5 h6
    injection h4 with h4
    injection h4 with h4
    subst h4 h6
    exact .inr ⟨b, cap, cur, rfl, h1, hm.blk h2 hb, h3⟩
theorem RowI.drewN {w : World} {base b n cap : Nat} {xs : List Int} (H : RowI w base b n cap xs) (m : Nat) : RowI (w.drewN m) base b n cap xs := H.mods ((Mods.refl [] _).drewN m) (by simp)
theorem rd_of {xs : List Int} {i : Nat} {x : Int} (h : xs[i]? = some x) : rd xs (i : Int) = x := by
  unfold rd; rw [Int.toNat_natCast, List.getD_eq_getElem?_getD, h]; rfl

set_option maxHeartbeats 1000000 in
theorem swapRangeI (base b n cap : Nat) (fv : Value) (p u q v r : List Int) (w : World) (hn : n ≤ 140737488351232) (huv : u.length = v.length) (H : RowI w base b n cap (p ++ u ++ q ++ v ++ r)) :
    Calls Try.prog 71 #[.slice (some ⟨b, 0, none⟩) n cap, .int .i64 p.length, .int .i64 (p.length + u.length + q.length : Nat), .int .i64 u.length, fv] w
      fun e w' => e = .returned (.tuple #[]) ∧ RowI w' base b n cap (p ++ v ++ q ++ u ++ r) ∧ Mods [b] w w' := by
  have hlen : (p ++ u ++ q ++ v ++ r).length = n := by have := H.1; simpa [nums] using this
  simp only [List.length_append] at hlen
  have HR := Lib.hid H; have HUV := Lib.hid huv
  have hb1 : p.length + u.length + q.length + u.length ≤ n := by omega
  have HL := Lib.hid hlen
  clear H huv hlen
  generalize hpl : p.length = P at *
  generalize hul : u.length = U at *
  generalize hql : q.length = Q at *
  have HPL := Lib.hid hpl; have HUL := Lib.hid hul; have HQL := Lib.hid hql
  clear hpl hul hql
  go_enter Try.func71, Try.ntmps71
  go_wp2
  go_loopw [10] (fun i wr => ∃ k : Nat, k ≤ U ∧ i = .int .i64 k ∧ RowI wr base b n cap (p ++ (v.take k ++ u.drop k) ++ q ++ (u.take k ++ v.drop k) ++ r) ∧ Mods [b] w wr) (fun i _ => U - (intOf i).toNat)
  case atStart => exact ⟨0, by omega, rfl, by simpa using HR.out, Mods.refl _ _⟩
  case round =>
    obtain ⟨k, hk, rfl, hR, hM⟩ := hrel
    have HRR := Lib.hid hR; have HM := Lib.hid hM
    clear hR hM
    by_cases hlt : k < U
    · obtain ⟨x, y, hx, hy, hstep⟩ := range_step p u q v r k (P + k) (P + U + Q + k) (by rw [HUL.out]; exact hlt) (by rw [HUL.out, HUV.out]) (by rw [HPL.out]) (by rw [HPL.out, HUL.out, HQL.out])
      obtain ⟨hc1, hf1⟩ := own_at HRR.out ((P + k : Nat) : Int) (by omega) (by omega)
      obtain ⟨hc2, hf2⟩ := own_at HRR.out ((P + U + Q + k : Nat) : Int) (by omega) (by omega)
      rw [Int.toNat_natCast] at hc1 hc2 hf1 hf2
      rw [rd_of hx] at hc1
      rw [rd_of hy] at hc2
      have HS := Lib.hid hstep
      clear hx hy hstep
      go_wp2
      go_region
      go_wp2
      go_roundw
      case rel =>
        refine ⟨k + 1, by omega, by go_num, ?_, ((HM.out.setCell (by simp) _).setCell (by simp) _).drew⟩
        have h := ((HRR.out.set (P + k) y).set (P + U + Q + k) x).drew
        rw [HS.out] at h
        exact h
      case measure => simp [intOf]; omega
    · have hkU : k = U := by omega
      have h := HRR.out
      rw [hkU, List.take_of_length_le (by rw [← HUV.out]; exact Nat.le_refl _), List.drop_of_length_le (by rw [HUL.out]; exact Nat.le_refl _), List.take_of_length_le (by rw [HUL.out]; exact Nat.le_refl _), List.drop_of_length_le (by rw [← HUV.out]; exact Nat.le_refl _), List.append_nil, List.append_nil] at h
      have HF := Lib.hid h
      clear h hkU
      go_wp2
      go_end0
      exact ⟨rfl, HF.out, HM.out⟩

theorem swapRangeI' (base b n cap : Nat) (fv : Value) (p u q v r : List Int) (w : World) (i j k : Int) (hi : i = p.length) (hj : j = p.length + u.length + q.length) (hk : k = u.length) (hn : n ≤ 140737488351232) (huv : u.length = v.length) (H : RowI w base b n cap (p ++ u ++ q ++ v ++ r)) :
    Calls Try.prog 71 #[.slice (some ⟨b, 0, none⟩) n cap, .int .i64 i, .int .i64 j, .int .i64 k, fv] w
      fun e w' => e = .returned (.tuple #[]) ∧ RowI w' base b n cap (p ++ v ++ q ++ u ++ r) ∧ Mods [b] w w' := by
  have h := swapRangeI base b n cap fv p u q v r w hn huv H
  have e : ((p.length + u.length + q.length : Nat) : Int) = (p.length : Int) + u.length + q.length := by omega
  rw [e] at h
  rw [hi, hj, hk]; exact h

set_option maxHeartbeats 1000000 in
theorem rotateI (base b n cap : Nat) (fv : Value) (p u v r : List Int) (w : World) (i j k : Int) (hi : i = p.length) (hj : j = p.length + u.length) (hk : k = p.length + u.length + v.length) (hn : n ≤ 140737488351232) (hu : 0 < u.length) (hv : 0 < v.length) (H : RowI w base b n cap (p ++ u ++ v ++ r)) :
    Calls Try.prog 67 #[.slice (some ⟨b, 0, none⟩) n cap, .int .i64 i, .int .i64 j, .int .i64 k, fv] w
      fun e w' => e = .returned (.tuple #[]) ∧ RowI w' base b n cap (p ++ v ++ u ++ r) ∧ Mods [b] w w' := by
  have hlen := H.length
  simp only [List.length_append] at hlen
  have HR := Lib.hid H
  clear H
  have hb0 : 0 ≤ i ∧ i < j ∧ j < k ∧ k ≤ n := by omega
  obtain ⟨h0, h1, h2, h3⟩ := hb0
  have HI := Lib.hid hi; have HJ := Lib.hid hj; have HK := Lib.hid hk; have HL := Lib.hid hlen
  have e1 : j - i = (u.length : Int) := by omega
  have e2 : k - j = (v.length : Int) := by omega
  have E1 := Lib.hid e1; have E2 := Lib.hid e2
  clear hi hj hk hlen e1 e2
  go_enter Try.func67, Try.ntmps67
  go_wp2
  go_loopw [10, 11] (fun x y wr => ∃ P U V R : List Int, 0 < U.length ∧ 0 < V.length ∧ x = .int .i64 U.length ∧ y = .int .i64 V.length ∧ Hid (j = P.length + U.length) ∧ j + V.length ≤ k ∧ (U.length : Int) ≤ j ∧ RowI wr base b n cap (P ++ U ++ V ++ R) ∧ Hid (P ++ V ++ U ++ R = p ++ v ++ u ++ r) ∧ Mods [b] w wr) (fun x y _ => ((intOf x) + (intOf y)).toNat)
  case atStart => exact ⟨p, u, v, r, hu, hv, by rw [E1.out], by rw [E2.out], HJ.out, by have := E2.out; omega, by have := E1.out; omega, HR.out, rfl, Mods.refl _ _⟩
  case round =>
    obtain ⟨P, U, V, R, hU, hV, rfl, rfl, HP, hkk, hUj, hR, HE, hM⟩ := hrel
    have HRR := Lib.hid hR; have HM := Lib.hid hM
    clear hR hM
    rcases Nat.lt_trichotomy U.length V.length with hlt | heq | hgt
    · have hne : ((U.length : Int) != (V.length : Int)) = true := by simp; omega
      obtain ⟨V1, V2, hV12, hV1, hV2⟩ : ∃ V1 V2, V = V1 ++ V2 ∧ V2.length = U.length ∧ V1.length = V.length - U.length := ⟨V.take (V.length - U.length), V.drop (V.length - U.length), by simp, by simp; omega, by simp⟩
      have hR2 := HRR.out
      rw [hV12] at hR2
      have HR2 := Lib.hid (show RowI wr base b n cap (P ++ U ++ V1 ++ V2 ++ R) from by simpa only [List.append_assoc] using hR2)
      have HV12 := Lib.hid hV12; have HV1 := Lib.hid hV1; have HV2 := Lib.hid hV2
      clear hR2 hV12 hV1 hV2
      go_wp2_with fail
      refine (swapRangeI' base b n cap fv P U V1 V2 R wr _ _ _ (by have := HP.out; omega) (by have := HP.out; have := HV1.out; have := HV2.out; omega) rfl hn HV1.out.symm HR2.out).mono ?_
      rintro e w' ⟨rfl, hR3, hM3⟩
      have HR3 := Lib.hid hR3; have HM3 := Lib.hid hM3
      clear hR3 hM3
      go_wp2_with fail
      go_roundw
      case rel =>
        have hv2 := HV2.out; have hv1 := HV1.out
        refine ⟨P, V2, V1, U ++ R, by omega, by omega, by rw [hv1], by rw [hv2]; congr 1; omega, ?_, by omega, by omega, by simpa only [List.append_assoc] using HR3.out, ?_, HM.out.trans HM3.out⟩
        · have := HP.out; show j = _; omega
        · rw [← HE.out, HV12.out]; show _ = _; simp only [List.append_assoc]
      case measure => simp [intOf]; omega
    · have hne : ((U.length : Int) != (V.length : Int)) = false := by simp; omega
      have HEQ := Lib.hid heq; clear heq
      have HR2 := Lib.hid (show RowI wr base b n cap (P ++ U ++ [] ++ V ++ R) from by simpa only [List.append_nil] using HRR.out)
      go_wp2_with fail
      refine (swapRangeI' base b n cap fv P U [] V R wr _ _ _ (by have := HP.out; omega) (by have := HP.out; simp; omega) rfl hn HEQ.out HR2.out).mono ?_
      rintro e w' ⟨rfl, hR3, hM3⟩
      have hR4 : RowI w' base b n cap (p ++ v ++ u ++ r) := by rw [← HE.out]; simpa only [List.append_nil] using hR3
      have HR4 := Lib.hid hR4; have HM3 := Lib.hid hM3
      clear hR3 hM3 hR4
      go_wp2_with fail
      go_end0
      exact ⟨rfl, HR4.out, HM.out.trans HM3.out⟩
    · have hne : ((U.length : Int) != (V.length : Int)) = true := by simp; omega
      obtain ⟨U1, U2, hU12, hU1, hU2⟩ : ∃ U1 U2, U = U1 ++ U2 ∧ U1.length = V.length ∧ U2.length = U.length - V.length := ⟨U.take V.length, U.drop V.length, by simp, by simp; omega, by simp⟩
      have hR2 := HRR.out
      rw [hU12] at hR2
      have HR2 := Lib.hid (show RowI wr base b n cap (P ++ U1 ++ U2 ++ V ++ R) from by simpa only [List.append_assoc] using hR2)
      have HU12 := Lib.hid hU12; have HU1 := Lib.hid hU1; have HU2 := Lib.hid hU2
      clear hR2 hU12 hU1 hU2
      go_wp2_with fail
      refine (swapRangeI' base b n cap fv P U1 U2 V R wr _ _ _ (by have := HP.out; omega) (by have := HP.out; have := HU1.out; have := HU2.out; omega) (by have := HU1.out; omega) hn HU1.out HR2.out).mono ?_
      rintro e w' ⟨rfl, hR3, hM3⟩
      have HR3 := Lib.hid hR3; have HM3 := Lib.hid hM3
      clear hR3 hM3
      go_wp2_with fail
      go_roundw
      case rel =>
        have hu2 := HU2.out; have hu1 := HU1.out
        refine ⟨P ++ V, U2, U1, R, by omega, by omega, by rw [hu2]; congr 1; omega, by rw [hu1], ?_, by omega, by omega, by simpa only [List.append_assoc] using HR3.out, ?_, HM.out.trans HM3.out⟩
        · have := HP.out; show j = _; rw [List.length_append]; omega
        · rw [← HE.out, HU12.out]; show _ = _; simp only [List.append_assoc]
      case measure => simp [intOf]; omega

abbrev cmpI (B : Nat) : Value := .func (.func 33) #[] #[.pointer (some ⟨B, 0, none⟩)]
def keyI (ls : List Int) (x : Int) : Int := rd ls x

set_option maxHeartbeats 2000000 in
theorem insertionI (base b n cap B : Nat) (A : Option Addr) (nl cl : Nat) (ls p s r : List Int) (w : World) (i j : Int) (hi : i = p.length) (hj : j = p.length + s.length) (hn : n ≤ 140737488351232)
    (hB : B ≠ b) (hA : ∀ ad, A = some ad → ad.block ≠ b) (hc : CmpI w B A nl cl ls) (hg : ∀ x ∈ s, GoodI ls x) (H : RowI w base b n cap (p ++ s ++ r)) :
    Calls Try.prog 57 #[.slice (some ⟨b, 0, none⟩) n cap, .int .i64 i, .int .i64 j, cmpI B] w
      fun e w' => e = .returned (.tuple #[]) ∧ (∃ s', Sorted (keyI ls) s' ∧ FEq (keyI ls) s s' ∧ RowI w' base b n cap (p ++ s' ++ r)) ∧ Mods [b] w w' := by
  have hlen := H.length
  simp only [List.length_append] at hlen
  have HR := Lib.hid H; have HC := Lib.hid hc; have HG := Lib.hid hg; have HA := Lib.hid hA
  have hb0 : 0 ≤ i ∧ i ≤ j ∧ j ≤ n := by omega
  obtain ⟨h0, h1, h2⟩ := hb0
  have HI := Lib.hid hi; have HJ := Lib.hid hj; have HL := Lib.hid hlen
  have HS : Hid (j - i = (s.length : Int)) := Lib.hid (show j - i = (s.length : Int) from by omega)
  clear H hc hg hA hi hj hlen
  have cm : Hid (∀ wr, Mods [b] w wr → ∀ m, CmpI (wr.drewN m) B A nl cl ls) := Lib.hid (show ∀ wr, Mods [b] w wr → ∀ m, CmpI (wr.drewN m) B A nl cl ls from fun wr hm m => HC.out.mods (hm.drewN m) (by simpa using hB) (fun ad h => by simpa using HA.out ad h))
  by_cases hs1 : j ≤ i + 1
  · have hsl : Sorted (keyI ls) s := by
      have := HS.out
      match s, this with
      | [], _ => exact sorted_nil _
      | [x], _ => exact sorted_one _ x
      | x :: y :: t, h => simp at h; omega
    have HSL := Lib.hid hsl; clear hsl
    go_enter Try.func57, Try.ntmps57
    go_wp2
    go_loopw [8, 9] (fun x y wr => x = .int .i64 (i + 1) ∧ wr = w) (fun x y _ => 0)
    case atStart => exact ⟨rfl, rfl⟩
    case round =>
      obtain ⟨rfl, rfl⟩ := hrel
      go_wp2
      go_end0
      exact ⟨rfl, ⟨s, HSL.out, FEq.refl _ _, HR.out⟩, Mods.refl _ _⟩
  · obtain ⟨a, rfl⟩ := Int.eq_ofNat_of_zero_le h0
    go_enter Try.func57, Try.ntmps57
    go_wp2
    go_loopw [8, 9] (fun x y wr => ∃ (S T : List Int) (m : Nat), x = .int .i64 ((a : Int) + m) ∧ Hid (S.length = m) ∧ 0 < m ∧ (a : Int) + m ≤ j ∧ Hid ((a : Int) + m + T.length = j) ∧ Hid (Sorted (keyI ls) S ∧ FEq (keyI ls) s (S ++ T)) ∧ Hid (RowI wr base b n cap (p ++ S ++ T ++ r)) ∧ Hid (Mods [b] w wr)) (fun x _ _ => (j - intOf x).toNat)
    case atStart =>
      have h := HS.out
      have hr := HR.out
      match s, h, hr with
      | [], h, _ => simp at h; omega
      | x :: t, h, hr =>
        simp at h
        exact ⟨[x], t, 1, by simp, rfl, by omega, by omega, by show _ = j; omega, ⟨sorted_one _ x, FEq.refl _ _⟩, by show RowI _ _ _ _ _ _; simpa using hr, Mods.refl _ _⟩
    case round =>
      obtain ⟨S, T, m, rfl, HSm, hm0, hmj, HST, HSF, HR1, HM⟩ := hrel
      by_cases hlt : (a : Int) + m < j
      · obtain ⟨z, T', hT'⟩ : ∃ z T', T = z :: T' := by
          have h := HST.out
          cases T with
          | nil => simp at h; omega
          | cons z T' => exact ⟨z, T', rfl⟩
        subst hT'
        obtain ⟨wo, hwo⟩ : ∃ wo : World, wo = wr := ⟨_, rfl⟩
        subst hwo
        go_wp2
        go_loopw [9] (fun y wr => ∃ (L R : List Int) (l : Nat), y = .int .i64 ((a : Int) + l) ∧ Hid (L.length = l) ∧ Hid (L.length + R.length = m) ∧ l ≤ m ∧ Hid (Sorted (keyI ls) (L ++ R) ∧ (∀ y ∈ R, keyI ls z < keyI ls y) ∧ FEq (keyI ls) s (L ++ z :: R ++ T')) ∧ Hid (RowI wr base b n cap (p ++ L ++ z :: R ++ T' ++ r)) ∧ Hid (Mods [b] w wr)) (fun y _ => (intOf y).toNat)
        case atStart => exact ⟨S, [], m, rfl, HSm.out, by simpa [Hid] using HSm.out, Nat.le_refl _, ⟨by simpa using HSF.out.1, by simp, by simpa using HSF.out.2⟩, by simpa [Hid] using HR1.out, HM.out⟩
        case round =>
          obtain ⟨L, R, l, rfl, HLl, HLR, hLS, HF, HR2, HM2⟩ := hrel
          have hout : Hid (∀ w', RowI w' base b n cap (p ++ L ++ z :: R ++ T' ++ r) → Sorted (keyI ls) (L ++ z :: R) → (L ++ z :: R).length = m + 1 ∧ Sorted (keyI ls) (L ++ z :: R) ∧ FEq (keyI ls) s ((L ++ z :: R) ++ T') ∧ RowI w' base b n cap (p ++ (L ++ z :: R) ++ T' ++ r)) :=
            Lib.hid (show ∀ w', RowI w' base b n cap (p ++ L ++ z :: R ++ T' ++ r) → Sorted (keyI ls) (L ++ z :: R) → (L ++ z :: R).length = m + 1 ∧ Sorted (keyI ls) (L ++ z :: R) ∧ FEq (keyI ls) s ((L ++ z :: R) ++ T') ∧ RowI w' base b n cap (p ++ (L ++ z :: R) ++ T' ++ r) from
              fun w' h hs => ⟨by have := HLR.out; simp; omega, hs, by simpa using HF.out.2.2, by simpa using h⟩)
          by_cases hl : l = 0
          · have hL : L = [] := by have := HLl.out; rw [hl] at this; exact List.eq_nil_of_length_eq_zero this
            have hdec : decide ((a : Int) < (a : Int) + (l : Int)) = false := by simp; omega
            have hfin := hout.out
            rw [hL] at hfin
            have hs0 : Sorted (keyI ls) ([] ++ z :: R) := insert_done (by have := HF.out.1; rwa [hL] at this) HF.out.2.1 (by simp)
            have hr0 := HR2.out
            rw [hL] at hr0
            have HS0 := Lib.hid hs0; have HFIN := Lib.hid hfin; have HR0 := Lib.hid hr0
            clear hL hs0 hfin hr0 hl
            go_wp2
            go_quiet (fail)
            go_wp2
            go_roundw
            case rel =>
              obtain ⟨q1, q2, q3, q4⟩ := HFIN.out _ (HR0.out.drewN _) HS0.out
              refine ⟨_, T', m + 1, by go_num, q1, by omega, by omega, ?_, ⟨q2, q3⟩, q4, HM2.out.drewN _⟩
              have := HST.out; simp at this; show _ = j; simp; omega
            case measure => simp [intOf]; omega
          · obtain ⟨l', rfl⟩ : ∃ l', l = l' + 1 := ⟨l - 1, by omega⟩
            obtain ⟨L', y, hL'⟩ : ∃ L' y, L = L' ++ [y] := by
              have := HLl.out
              rcases List.eq_nil_or_concat L with e | ⟨L', y, e⟩
              · rw [e] at this; simp at this
              · exact ⟨L', y, by simpa using e⟩
            have hL'l : L'.length = l' := by have := HLl.out; rw [hL'] at this; simpa using this
            have hpl : p.length = a := by have := HI.out; omega
            have hr := HR2.out
            rw [hL'] at hr
            have hfit : a + l' + 1 < n := by
              have h1 := hr.length
              simp at h1; omega
            obtain ⟨hc1, hf1⟩ := own_at hr ((a + l' + 1 : Nat) : Int) (by omega) (by omega)
            obtain ⟨hc2, hf2⟩ := own_at hr ((a + l' : Nat) : Int) (by omega) (by omega)
            rw [Int.toNat_natCast] at hc1 hc2 hf1 hf2
            have ez : (p ++ (L' ++ [y]) ++ z :: R ++ T' ++ r)[a + l' + 1]? = some z := by
              have e : p ++ (L' ++ [y]) ++ z :: R ++ T' ++ r = (p ++ L' ++ [y]) ++ z :: (R ++ T' ++ r) := by simp
              rw [e]; exact get_mid _ _ _ _ (by simp; omega)
            have ey : (p ++ (L' ++ [y]) ++ z :: R ++ T' ++ r)[a + l']? = some y := by
              have e : p ++ (L' ++ [y]) ++ z :: R ++ T' ++ r = (p ++ L') ++ y :: (z :: R ++ T' ++ r) := by simp
              rw [e]; exact get_mid _ _ _ _ (by simp; omega)
            rw [rd_of ez] at hc1
            rw [rd_of ey] at hc2
            have hgz : GoodI ls z := HG.out z ((HF.out.2.2.mem z).2 (by simp))
            have hgy : GoodI ls y := HG.out y ((HF.out.2.2.mem y).2 (by simp [hL']))
            have hord := fun q => order1 B A nl cl ls z y (wr.drewN q) (cm.out wr HM2.out q) hgz hgy
            have HORD := Lib.hid hord; have HR3 := Lib.hid hr; have HL' := Lib.hid hL'; have HPL := Lib.hid hpl; have HLL := Lib.hid hL'l
            have kz : 1 ≤ rd ls z ∧ rd ls z ≤ 9223372036854775807 := hgz.2.2
            have ky : 1 ≤ rd ls y ∧ rd ls y ≤ 9223372036854775807 := hgy.2.2
            clear hr ez ey hgz hgy hord hL' hpl hL'l
            generalize hkz : rd ls z = kz0 at *
            generalize hky : rd ls y = ky0 at *
            have HKZ := Lib.hid hkz; have HKY := Lib.hid hky
            clear hkz hky
            have hdec : decide ((a : Int) < (a : Int) + ((l' : Int) + 1)) = true := by simp; omega
            have hw : IntKind.i64.wrap ((a : Int) + ((l' : Int) + 1) - 1) = (a : Int) + (l' : Int) := by rw [IntWalk.i64_in _ (by omega)]; omega
            have hi1 : (a : Int) + ((l' : Int) + 1) < (n : Int) := by omega
            have hi2 : (a : Int) + (l' : Int) < (n : Int) := by omega
            have hi3 : (0 : Int) ≤ (a : Int) + ((l' : Int) + 1) := by omega
            have hi4 : (0 : Int) ≤ (a : Int) + (l' : Int) := by omega
            have ht1 : ((a : Int) + ((l' : Int) + 1)).toNat = a + (l' + 1) := by omega
            have ht2 : ((a : Int) + (l' : Int)).toNat = a + l' := by omega
            rw [Nat.add_assoc] at hc1 hf1
            by_cases hk : kz0 < ky0
            · have hd : kz0 - ky0 < 0 := by omega
              go_wp2
              go_quiet ((go_at_call 33; exact Calls.quiet_of (HORD.out _)))
              go_wp2
              go_region
              go_wp2
              go_roundw
              case rel =>
                have hlz : keyI ls z < keyI ls y := by unfold keyI; rw [HKZ.out, HKY.out]; exact hk
                have hF := HF.out
                rw [HL'.out] at hF
                refine ⟨L', y :: R, l', rfl, HLL.out, ?_, by omega, ⟨sorted_mid hF.1, ?_, ?_⟩, ?_, ((HM2.out.drewN _).setCell (by simp) _).setCell (by simp) _⟩
                · have h1 := HLR.out
                  rw [HL'.out] at h1
                  show _ = _
                  simp at h1 ⊢; omega
                · intro q hq
                  rcases List.mem_cons.1 hq with e | e
                  · rw [e]; exact hlz
                  · exact hF.2.1 q e
                · refine hF.2.2.trans ?_
                  have h := FEq.step (key := keyI ls) L' (R ++ T') z y hlz
                  simpa using h
                · have h := ((HR3.out.drewN (nq + 1)).set (a + (l' + 1)) y).set (a + l') z
                  have e1 : p ++ (L' ++ [y]) ++ z :: R ++ T' ++ r = (p ++ L') ++ y :: z :: (R ++ T' ++ r) := by simp
                  have hpl : (p ++ L').length = a + l' := by have := HPL.out; have := HLL.out; simp; omega
                  rw [e1, swap_adj (p ++ L') (R ++ T' ++ r) y z (a + l') (a + (l' + 1)) (by omega) (by omega)] at h
                  show RowI _ _ _ _ _ _
                  simpa using h
              case measure => simp [intOf]; omega
            · have hd : ¬ kz0 - ky0 < 0 := by omega
              have hdb : decide (kz0 - ky0 < 0) = false := by simp; omega
              have hfin : Sorted (keyI ls) (L ++ z :: R) := by
                refine insert_done HF.out.1 HF.out.2.1 ?_
                have h1 := HF.out.1
                rw [HL'.out] at h1 ⊢
                exact last_le (sorted_app.1 h1).1 (by unfold keyI; rw [HKZ.out, HKY.out]; omega)
              have HFIN := Lib.hid hfin; clear hfin
              go_wp2
              go_quiet ((go_at_call 33; exact Calls.quiet_of (HORD.out _)))
              go_wp2
              go_roundw
              case rel =>
                obtain ⟨q1, q2, q3, q4⟩ := hout.out _ (HR2.out.drewN _) HFIN.out
                refine ⟨_, T', m + 1, by go_num, q1, by omega, by omega, ?_, ⟨q2, q3⟩, q4, HM2.out.drewN _⟩
                have := HST.out; simp at this; show _ = j; simp; omega
              case measure => simp [intOf]; omega
      · go_wp2
        go_end0
        have hT : T = [] := by have h := HST.out; cases T with | nil => rfl | cons => simp at h; omega
        have hr := HR1.out
        have hf := HSF.out
        rw [hT] at hr hf
        exact ⟨rfl, ⟨S, hf.1, by simpa using hf.2, by simpa using hr⟩, HM.out⟩
end Go.Proofs.Ytbljoihnjhllhaa
