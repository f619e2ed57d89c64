/- What code.Check, code.One and the reference's Check, One, Codes do. -/
import Derived.Test.YtoanhnebalapeaaTypes
import Derived.Test.YtoanhnebalapeaaCodeP
namespace Go.Proofs.Ytoanhnebalapeaa
open Go.RowKit
open Go.Proofs.YtoanhnebalapeaaW.PrintWords
open Srt

theorem rd_ln (ls : List Int) (k : Nat) : rd ls (k : Int) = ln ls k := by unfold rd ln; rw [Int.toNat_natCast, List.getD_eq_getElem?_getD]

/-- One step of the sums of a check. -/
theorem check_step (ls : List Int) (k : Nat) (hk : k < ls.length) (hb : ls.length ≤ 17592186044416) (h : ¬ ln ls k < 0) (h2 : ¬ 15 < ln ls k) (hp : 0 < ln ls k) :
    wrap64 (krUp ls k + wrap64 (2 ^ (15 - ln ls k).toNat)) = krUp ls (k + 1) ∧ (mnUp ls k : Int) + 1 = mnUp ls (k + 1) := by
  have b := krUp_bounds ls k
  have e : (2 : Int) ^ (15 - ln ls k).toNat = wgt (ln ls k) := by unfold wgt; rw [if_pos hp, show (15 - ln ls k).toNat = 15 - (ln ls k).toNat from by omega]
  have w1 := wgt_le (ln ls k)
  have w0 := wgt_nonneg (ln ls k)
  rw [e, w64 (wgt (ln ls k)) (by omega) (by omega), w64 _ (by omega) (by omega), krUp_succ, mnUp_succ, if_pos hp]
  exact ⟨rfl, by omega⟩
theorem check_skip (ls : List Int) (k : Nat) (hp : ln ls k ≤ 0) : krUp ls (k + 1) = krUp ls k ∧ mnUp ls (k + 1) = mnUp ls k := by
  rw [krUp_succ, mnUp_succ, if_neg (by omega)]
  unfold wgt
  rw [if_neg (by omega)]; simp

set_option maxHeartbeats 1000000 in
theorem check_any (A : Option Addr) (n c : Nat) (ls : List Int) (w : World) (HR : ReadsInt w .i64 A n ls) (hn : n ≤ 17592186044416) :
    Calls Try.prog 29 #[.slice A n c] w fun e w' => e = .returned (.int .i64 (checkS ls)) ∧ w = w' := by
  have HRR := Lib.hid HR; have HL := Lib.hid HR.1
  clear HR
  go_enter Try.func29, Try.ntmps29
  go_wp2
  go_loop [3, 4, 6, 9] (fun s m x i => ∃ k : Nat, k ≤ n ∧ i = .int .i64 k ∧ s = .int .i64 (krUp ls k) ∧ m = .int .i64 (mnUp ls k : Nat) ∧ Hid ((ls.take k).any badLen = false)) (fun _ _ _ i => n - (intOf i).toNat)
  case atStart => exact ⟨0, Nat.zero_le _, rfl, rfl, rfl, rfl⟩
  case round =>
    obtain ⟨k, hk, rfl, rfl, rfl, HB⟩ := hrel
    have hmk := mnUp_le ls k
    by_cases hlt : k < n
    · obtain ⟨ad, hA, hcell⟩ := ReadsInt.at_ HRR.out (k : Int) (by omega) (by omega)
      rw [Int.toNat_natCast, rd_ln] at hcell
      subst hA
      have hkl : k < ls.length := by have := HL.out; omega
      by_cases hbad : badLen (ln ls k) = true
      · have hfin : checkS ls = 8 := by
          unfold checkS
          rw [if_pos]
          rw [List.any_eq_true]
          exact ⟨ln ls k, ln_mem hkl, hbad⟩
        have hb2 : ln ls k < 0 ∨ 15 < ln ls k := by unfold badLen at hbad; simpa using hbad
        have HFIN := Lib.hid hfin
        clear hfin hbad
        by_cases h0 : ln ls k < 0
        · go_wp2
          go_ret
          exact ⟨by rw [HFIN.out]; rfl, rfl⟩
        · have h15 : 15 < ln ls k := by omega
          go_wp2
          go_ret
          exact ⟨by rw [HFIN.out]; rfl, rfl⟩
      · have hb2 : ¬ ln ls k < 0 ∧ ¬ 15 < ln ls k := by unfold badLen at hbad; simp at hbad; omega
        obtain ⟨hb0, hb15⟩ := hb2
        have HB1 : Hid ((ls.take (k + 1)).any badLen = false) := Lib.hid (show (ls.take (k + 1)).any badLen = false from by rw [any_up ls k hkl, HB.out]; simpa using hbad)
        clear hbad
        by_cases hp : 0 < ln ls k
        · obtain ⟨e1, e2⟩ := check_step ls k hkl (by have := HL.out; omega) hb0 hb15 hp
          have E1 := Lib.hid e1; have E2 := Lib.hid e2
          clear e1 e2
          go_wp2
          go_round
          case rel => exact ⟨k + 1, by omega, by go_num, by rw [E1.out], by rw [E2.out], HB1.out⟩
          case measure => simp [intOf]; omega
        · obtain ⟨e1, e2⟩ := check_skip ls k (by omega)
          have E1 := Lib.hid e1; have E2 := Lib.hid e2
          clear e1 e2
          go_wp2
          go_round
          case rel => exact ⟨k + 1, by omega, by go_num, by rw [E1.out], by rw [E2.out], HB1.out⟩
          case measure => simp [intOf]; omega
    · have hkn : k = ls.length := by have := HL.out; omega
      have hfin : checkS ls = if mnUp ls k = 1 ∨ krUp ls k = 32768 then 0 else 3 := by
        unfold checkS
        have hb := HB.out
        rw [hkn, List.take_of_length_le (Nat.le_refl _)] at hb
        rw [if_neg (by rw [hb]; simp), hkn]
        rfl
      have HFIN := Lib.hid hfin
      clear hfin hkn
      by_cases hm : mnUp ls k = 1
      · have hmb : ((mnUp ls k : Int) != 1) = false := by simp; omega
        have HM := Lib.hid hm
        clear hm
        go_wp2
        go_ret
        exact ⟨by rw [HFIN.out, if_pos (.inl HM.out)]; rfl, rfl⟩
      · have hmb : ((mnUp ls k : Int) != 1) = true := by simp; omega
        have HM := Lib.hid hm
        clear hm
        by_cases hs : krUp ls k = 32768
        · have hsb : (krUp ls k != 32768) = false := by simp [hs]
          have HS := Lib.hid hs
          clear hs
          go_wp2
          go_ret
          exact ⟨by rw [HFIN.out, if_pos (.inr HS.out)]; rfl, rfl⟩
        · have hsb : (krUp ls k != 32768) = true := by simp [hs]
          have HS := Lib.hid hs
          clear hs
          go_wp2
          go_ret
          exact ⟨by rw [HFIN.out, if_neg (by have := HM.out; have := HS.out; omega)]; rfl, rfl⟩

set_option maxHeartbeats 1000000 in
theorem refOne_any (A : Option Addr) (n c : Nat) (ls : List Int) (w : World) (HR : ReadsInt w .i64 A n ls) (hn : n ≤ 17592186044416) :
    Calls Try.prog 27 #[.slice A n c] w fun e w' => e = .returned (.tuple #[.int .i64 (oneS ls).1, .bool (oneS ls).2]) ∧ w = w' := by
  have HRR := Lib.hid HR; have HL := Lib.hid HR.1
  clear HR
  go_enter Try.func27, Try.ntmps27
  go_wp2
  go_loop [4, 5, 6] (fun a m i => ∃ k : Nat, k ≤ n ∧ i = .int .i64 k ∧ a = .int .i64 (hd0 (nzUp ls k) : Nat) ∧ m = .int .i64 ((nzUp ls k).length : Nat)) (fun _ _ i => n - (intOf i).toNat)
  case atStart => exact ⟨0, Nat.zero_le _, rfl, rfl, rfl⟩
  case round =>
    obtain ⟨k, hk, rfl, rfl, rfl⟩ := hrel
    have hmk := nzUp_le ls k
    by_cases hlt : k < n
    · obtain ⟨ad, hA, hcell⟩ := ReadsInt.at_ HRR.out (k : Int) (by omega) (by omega)
      rw [Int.toNat_natCast, rd_ln] at hcell
      subst hA
      by_cases hz : ln ls k = 0
      · have hzb : (ln ls k != 0) = false := by simp [hz]
        have HS := Lib.hid (nzUp_miss ls k hz)
        clear hz
        go_wp2
        go_round
        case rel => exact ⟨k + 1, by omega, by go_num, by rw [HS.out], by rw [HS.out]⟩
        case measure => simp [intOf]; omega
      · have hzb : (ln ls k != 0) = true := by simp [hz]
        have HS := Lib.hid (nzUp_hit ls k hz)
        clear hz
        cases hl : nzUp ls k with
        | nil =>
          have HS2 := Lib.hid (show nzUp ls (k + 1) = [k] from by rw [HS.out, hl]; rfl)
          rw [hl] at hmk
          clear hl
          go_wp2
          go_round
          case rel => exact ⟨k + 1, by omega, by go_num, by rw [HS2.out]; rfl, by rw [HS2.out]; rfl⟩
          case measure => simp [intOf]; omega
        | cons t l =>
          have HS2 := Lib.hid (show nzUp ls (k + 1) = t :: (l ++ [k]) from by rw [HS.out, hl]; rfl)
          have HQ := Lib.hid (show (nzUp ls (k + 1)).length = l.length + 1 + 1 from by rw [HS.out, hl]; simp)
          rw [hl] at hmk
          clear hl
          have hne : (((t :: l).length : Int) == 0) = false := by simp; omega
          have hle : (t :: l).length = l.length + 1 := rfl
          rw [hle] at hne hmk ⊢
          generalize l.length = q at *
          go_wp2
          go_round
          case rel => exact ⟨k + 1, by omega, by go_num, by rw [HS2.out]; rfl, by rw [HQ.out]; go_num⟩
          case measure => simp [intOf]; omega
    · have hkn : k = ls.length := by have := HL.out; omega
      subst hkn
      by_cases h1 : (nzUp ls ls.length).length = 1
      · have hb : (((nzUp ls ls.length).length : Int) != 1) = false := by simp; omega
        have HF := Lib.hid (oneOf_one _ h1)
        clear h1
        go_wp2
        go_ret2
        exact ⟨by rw [oneS_up, HF.out]; rfl, rfl⟩
      · have hb : (((nzUp ls ls.length).length : Int) != 1) = true := by simp; omega
        have HF := Lib.hid (oneOf_not _ h1)
        clear h1
        go_wp2
        go_ret2
        exact ⟨by rw [oneS_up, HF.out]; rfl, rfl⟩

set_option maxHeartbeats 1000000 in
theorem refCodes_any (A : Option Addr) (n c : Nat) (ls : List Int) (w : World) (HR : ReadsInt w .i64 A n ls) (hn : n ≤ 17592186044416) (hc : checkS ls = 0) :
    Calls Try.prog 31 #[.slice A n c] w fun e w' => e = .returned (.slice (some ⟨w.heap.size, 0, none⟩) n n) ∧ w'.ownsRow w.heap.size 34 1 (.slice (some ⟨w.heap.size, 0, none⟩) n n) n (nums .u32 (codesS ls)) ∧ Below w.heap.size w w' := by
  have HRR := Lib.hid HR; have HL := Lib.hid HR.1; have HC := Lib.hid hc
  clear HR hc
  have hmk := print_make (P := Try.prog) 31 34 .u32 4 Try.underlying31 info_u32 (by decide) n (by omega)
  go_enter Try.func31, Try.ntmps31
  go_wp2
  have hO0 : ((w.alloc (.cells (madeCells #[.int .u32 0] n) 34)).ownsRow w.heap.size 34 1 (.slice (some ⟨w.heap.size, 0, none⟩) n n) n (nums .u32 (rowAt ls 1 0))) := by
    rw [rowAt_start, HL.out]; exact own_made w w.heap.size 34 .u32 n (Nat.le_refl _) (by omega)
  have HO0 := Lib.hid hO0
  have HB0 := Lib.hid ((Below.refl w.heap.size w).alloc (Nat.le_refl _) (.cells (madeCells #[.int .u32 0] n) 34))
  clear hO0 hmk
  generalize hw1 : w.alloc (.cells (madeCells #[.int .u32 0] n) 34) = w1 at *
  generalize hg : w.heap.size = g at *
  have HW1 := Lib.hid hw1; have HG := Lib.hid hg
  clear hw1 hg
  go_loopw [4, 5, 6, 7] (fun cd f N i wr => ∃ (m : Nat) (b : Bool) (x : Int), 1 ≤ m ∧ m ≤ 16 ∧ N = .int .i64 m ∧ f = .bool b ∧ cd = .int .u32 x ∧ 0 ≤ x ∧ x ≤ 32768 ∧ Hid (x = upTo ls ((m : Int) - 1) ls.length) ∧ Hid (b = true → x = 0) ∧ Hid (wr.ownsRow g 34 1 (.slice (some ⟨g, 0, none⟩) n n) n (nums .u32 (rowAt ls m 0))) ∧ Hid (Below g w wr)) (fun _ _ N _ _ => (16 - intOf N).toNat)
  case atStart => exact ⟨1, true, 0, by omega, by omega, rfl, rfl, rfl, by omega, by omega, (upTo_zero ls).symm, fun _ => rfl, HO0.out, HB0.out⟩
  case round =>
    obtain ⟨m, b, x, hm1, hm2, rfl, rfl, rfl, hx0, hx1, HX, HF, HO, HB⟩ := hrel
    by_cases hlt : m ≤ 15
    · obtain ⟨wo, hwo⟩ : ∃ wo : World, wo = wr := ⟨_, rfl⟩
      subst hwo
      have hx2 : upTo ls m 0 = x * 2 := by
        have := upTo_next ls ((m : Int) - 1)
        rw [show (m : Int) - 1 + 1 = m from by omega] at this
        rw [this, HX.out]
      have hx3 := upTo_lt HC.out m 0 hlt
      rw [hx2] at hx3
      have HX2 := Lib.hid hx2
      clear hx2
      go_wp2
      go_loopw [4, 5, 7] (fun cd f i wr => ∃ (k : Nat) (b : Bool) (x : Int), k ≤ n ∧ i = .int .i64 k ∧ f = .bool b ∧ cd = .int .u32 x ∧ 0 ≤ x ∧ x ≤ 32768 ∧ Hid (x = upTo ls m k) ∧ Hid (b = true → x = 0) ∧ Hid (wr.ownsRow g 34 1 (.slice (some ⟨g, 0, none⟩) n n) n (nums .u32 (rowAt ls m k))) ∧ Hid (Below g w wr)) (fun _ _ i _ => n - (intOf i).toNat)
      case atStart => exact ⟨0, b, x * 2, by omega, rfl, rfl, rfl, by omega, by omega, HX2.out.symm, fun h => by have := HF.out h; omega, HO.out, HB.out⟩
      case round =>
        obtain ⟨k, b, x, hk, rfl, rfl, rfl, hx0, hx1, HX, HF, HO, HB⟩ := hrel
        by_cases hlt2 : k < n
        · obtain ⟨ad, hA, hcell0⟩ := ReadsInt.at_ HRR.out (k : Int) (by omega) (by omega)
          have hcell := pw_cell_below (w1 := wr) (by rw [HG.out]; exact HB.out) hcell0
          rw [Int.toNat_natCast, rd_ln] at hcell
          clear hcell0
          have hkl : k < ls.length := by have := HL.out; omega
          obtain ⟨hc1, hf1⟩ := own_at HO.out (k : Int) (by omega) (by omega)
          rw [Int.toNat_natCast] at hc1 hf1
          subst hA
          by_cases he : ln ls k = m
          · have heb : (ln ls k == (m : Int)) = true := by simp [he]
            have hnx : upTo ls m (k + 1) = x + 1 := by rw [upTo_hit ls m k hkl (by omega) he, HX.out]
            have hcd : codeS ls k = x := by rw [HX.out, ← upTo_code ls k, he]
            have hle := upTo_lt HC.out m (k + 1) hlt
            rw [hnx] at hle
            have hrow : (wr.setCell ⟨g, k, none⟩ (.int .u32 x)).ownsRow g 34 1 (.slice (some ⟨g, 0, none⟩) n n) n (nums .u32 (rowAt ls m (k + 1))) := by
              have h := (own_store HO.out (k : Int) x).1
              rw [Int.toNat_natCast, ← hcd, rowAt_hit ls m k hkl (by omega) he] at h
              rw [← hcd]; exact h
            have HROW := Lib.hid hrow; have HNX := Lib.hid hnx
            have HMB := Lib.hid (HB.out.setCell (p := ⟨g, k, none⟩) (Nat.le_refl g) (.int .u32 x))
            clear hrow hnx hcd he
            cases b
            · go_wp2
              go_roundw
              case rel => exact ⟨k + 1, false, x + 1, by omega, by go_num, rfl, rfl, by omega, by omega, HNX.out.symm, fun h => by simp at h, HROW.out, HMB.out⟩
              case measure => simp [intOf]; omega
            · have hx00 : x = 0 := HF.out rfl
              subst hx00
              go_wp2
              go_roundw
              case rel => exact ⟨k + 1, false, 0 + 1, by omega, by go_num, rfl, rfl, by omega, by omega, HNX.out.symm, fun h => by simp at h, HROW.out, HMB.out⟩
              case measure => simp [intOf]; omega
          · have heb : (ln ls k == (m : Int)) = false := by simp [he]
            have HNX := Lib.hid (upTo_miss ls m k he); have HRM := Lib.hid (rowAt_miss ls m k he)
            clear he
            go_wp2
            go_roundw
            case rel => exact ⟨k + 1, b, x, by omega, by go_num, rfl, rfl, by omega, by omega, by show _ = _; rw [HNX.out, HX.out], HF.out, by show World.ownsRow _ _ _ _ _ _ _; rw [HRM.out]; exact HO.out, HB.out⟩
            case measure => simp [intOf]; omega
        · have hkn : k = ls.length := by have := HL.out; omega
          have HR1 := Lib.hid (show wr.ownsRow g 34 1 (.slice (some ⟨g, 0, none⟩) n n) n (nums .u32 (rowAt ls ((m + 1 : Nat) : Int) 0)) from by
            have h := HO.out
            rw [hkn, rowAt_next] at h
            simpa using h)
          have HX1 := Lib.hid (show x = upTo ls (((m + 1 : Nat) : Int) - 1) ls.length from by rw [HX.out, hkn]; congr 1; omega)
          clear hkn
          go_wp2
          go_roundw
          case rel => exact ⟨m + 1, b, x, by omega, by omega, by go_num, rfl, rfl, by omega, by omega, HX1.out, HF.out, HR1.out, HB.out⟩
          case measure => simp [intOf]; omega
    · have hm16 : m = 16 := by omega
      subst hm16
      have HR1 := Lib.hid (show wr.ownsRow g 34 1 (.slice (some ⟨g, 0, none⟩) n n) n (nums .u32 (codesS ls)) from by
        have h := HO.out
        rw [show ((16 : Nat) : Int) = 16 from rfl, rowAt_done HC.out] at h
        exact h)
      go_wp2
      go_ret
      rw [HG.out]
      exact ⟨rfl, HR1.out, HB.out⟩

set_option maxHeartbeats 1000000 in
theorem refCheck_any (A : Option Addr) (n c : Nat) (ls : List Int) (w : World) (HR : ReadsInt w .i64 A n ls) (hn : n ≤ 17592186044416) :
    Calls Try.prog 30 #[.slice A n c] w fun e w' => e = .returned (.int .i64 (checkS ls)) ∧ w = w' := by
  have HRR := Lib.hid HR; have HL := Lib.hid HR.1
  clear HR
  go_enter Try.func30, Try.ntmps30
  go_wp2
  go_loop [3, 4, 5, 6, 7] (fun s m i pt j => ∃ k : Nat, k ≤ n ∧ i = .int .i64 k ∧ s = .int .i64 (krUp ls k) ∧ m = .int .i64 (mnUp ls k : Nat) ∧ Hid ((ls.take k).any badLen = false)) (fun _ _ i _ _ => n - (intOf i).toNat)
  case atStart => exact ⟨0, Nat.zero_le _, rfl, rfl, rfl, rfl⟩
  case round =>
    obtain ⟨k, hk, rfl, rfl, rfl, HB⟩ := hrel
    have hmk := mnUp_le ls k
    by_cases hlt : k < n
    · obtain ⟨ad, hA, hcell⟩ := ReadsInt.at_ HRR.out (k : Int) (by omega) (by omega)
      rw [Int.toNat_natCast, rd_ln] at hcell
      subst hA
      have hkl : k < ls.length := by have := HL.out; omega
      by_cases hbad : badLen (ln ls k) = true
      · have hfin : checkS ls = 8 := by
          unfold checkS
          rw [if_pos]
          rw [List.any_eq_true]
          exact ⟨ln ls k, ln_mem hkl, hbad⟩
        have hb2 : ln ls k < 0 ∨ 15 < ln ls k := by unfold badLen at hbad; simpa using hbad
        have HFIN := Lib.hid hfin
        clear hfin hbad
        by_cases h0 : ln ls k < 0
        · go_wp2
          go_ret
          exact ⟨by rw [HFIN.out]; rfl, rfl⟩
        · have h15 : 15 < ln ls k := by omega
          go_wp2
          go_ret
          exact ⟨by rw [HFIN.out]; rfl, rfl⟩
      · have hb2 : ¬ ln ls k < 0 ∧ ¬ 15 < ln ls k := by unfold badLen at hbad; simp at hbad; omega
        obtain ⟨hb0, hb15⟩ := hb2
        have HB1 : Hid ((ls.take (k + 1)).any badLen = false) := Lib.hid (show (ls.take (k + 1)).any badLen = false from by rw [any_up ls k hkl, HB.out]; simpa using hbad)
        clear hbad
        by_cases hp : 0 < ln ls k
        · have e1 : krUp ls (k + 1) = krUp ls k + 32768 / 2 ^ (ln ls k).toNat := by
            rw [krUp_succ]
            unfold wgt
            rw [if_pos hp]
            have : (32768 : Int) = 2 ^ (15 - (ln ls k).toNat) * 2 ^ (ln ls k).toNat := by rw [← Int.pow_add, show 15 - (ln ls k).toNat + (ln ls k).toNat = 15 from by omega]; rfl
            rw [this, Int.mul_ediv_cancel _ (Int.ne_of_gt (Int.pow_pos (by decide)))]
          have e2 : mnUp ls (k + 1) = mnUp ls k + 1 := by rw [mnUp_succ, if_pos hp]
          have E1 := Lib.hid e1; have E2 := Lib.hid e2
          have bk := krUp_bounds ls k
          clear e1 e2
          go_wp2
          go_loop [6, 7] (fun pt j => ∃ (x : Int) (q : Nat), pt = .int .i64 x ∧ j = .int .i64 q ∧ (q : Int) ≤ ln ls k ∧ 0 ≤ x ∧ x ≤ 32768 ∧ Hid (x = 32768 / 2 ^ q)) (fun _ j => (ln ls k - intOf j).toNat)
          case atStart => exact ⟨32768, 0, rfl, rfl, by omega, by omega, by omega, by show _ = _; simp⟩
          case round =>
            obtain ⟨x, q, rfl, rfl, hq, hx0, hx1, HX⟩ := hrel
            by_cases hq2 : (q : Int) < ln ls k
            · go_wp2
              go_round
              case rel => exact ⟨x / 2, q + 1, rfl, by go_num, by omega, by omega, by omega, by show _ = _; rw [HX.out, Int.pow_succ, Int.ediv_ediv_of_nonneg (Int.le_of_lt (Int.pow_pos (by decide)))]⟩
              case measure => simp [intOf]; omega
            · have hqe : q = (ln ls k).toNat := by omega
              have HX2 := Lib.hid (show krUp ls (k + 1) = krUp ls k + x from by rw [E1.out, HX.out, hqe])
              clear hqe
              go_wp2
              go_round
              case rel => exact ⟨k + 1, by omega, by go_num, by rw [HX2.out], by rw [E2.out]; go_num, HB1.out⟩
              case measure => simp [intOf]; omega
        · obtain ⟨e1, e2⟩ := check_skip ls k (by omega)
          have E1 := Lib.hid e1; have E2 := Lib.hid e2
          clear e1 e2
          go_wp2
          go_round
          case rel => exact ⟨k + 1, by omega, by go_num, by rw [E1.out], by rw [E2.out], HB1.out⟩
          case measure => simp [intOf]; omega
    · have hkn : k = ls.length := by have := HL.out; omega
      have hfin : checkS ls = if mnUp ls k = 1 ∨ krUp ls k = 32768 then 0 else 3 := by
        unfold checkS
        have hb := HB.out
        rw [hkn, List.take_of_length_le (Nat.le_refl _)] at hb
        rw [if_neg (by rw [hb]; simp), hkn]
        rfl
      have HFIN := Lib.hid hfin
      clear hfin hkn
      by_cases hm : mnUp ls k = 1
      · have hmb : ((mnUp ls k : Int) == 1) = true := by simp; omega
        have HM := Lib.hid hm
        clear hm
        go_wp2
        go_ret
        exact ⟨by rw [HFIN.out, if_pos (.inl HM.out)]; rfl, rfl⟩
      · have hmb : ((mnUp ls k : Int) == 1) = false := by simp; omega
        have HM := Lib.hid hm
        clear hm
        by_cases hs : krUp ls k = 32768
        · have hsb : (krUp ls k == 32768) = true := by simp [hs]
          have HS := Lib.hid hs
          clear hs
          go_wp2
          go_ret
          exact ⟨by rw [HFIN.out, if_pos (.inr HS.out)]; rfl, rfl⟩
        · have hsb : (krUp ls k == 32768) = false := by simp [hs]
          have HS := Lib.hid hs
          clear hs
          go_wp2
          go_ret
          exact ⟨by rw [HFIN.out, if_neg (by have := HM.out; have := HS.out; omega)]; rfl, rfl⟩
end Go.Proofs.Ytoanhnebalapeaa
