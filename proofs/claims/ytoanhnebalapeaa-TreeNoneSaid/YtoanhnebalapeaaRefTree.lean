/- What the reference's Symbol does. -/
import Derived.Test.YtoanhnebalapeaaTree
import Derived.Test.YtoanhnebalapeaaRefBits
namespace Go.Proofs.Ytoanhnebalapeaa
open Go.RowKit
open Go.Proofs.YtoanhnebalapeaaW.PrintWords
open Srt

set_option maxHeartbeats 1000000 in
theorem symbol_one (g : Nat) (ls : List Int) (A : Option Addr) (c : Nat) (C : Option Addr) (cc : Nat) (X : Option Addr) (bs : List Int) (p : Nat) (sh : Bool) (w : World) (HR : ReadsInt w .i64 A ls.length ls) (hn : ls.length ≤ 17592186044416) (h1 : (oneS ls).2 = true) (h : Eye w g X bs p sh) :
    Calls Try.prog 41 #[.slice A ls.length c, .slice C ls.length cc, .pointer (some ⟨g, 0, none⟩)] w fun e w' => e = .returned (.int .i64 (if sh then -1 else (oneS ls).1)) ∧ w = w' := by
  have HRR := Lib.hid HR; have H1 := Lib.hid h1
  obtain ⟨x, HX⟩ : ∃ v, Hid ((oneS ls).1 = v) := ⟨_, rfl⟩
  obtain ⟨_, _, ⟨c3, hb⟩, _, _⟩ := h
  have h2 : w.cell? ⟨g, 2, none⟩ = some (.bool sh) := cell_blk hb 2
  rw [HX.out]
  clear HR h1 hb
  cases sh
  · go_enter Try.func41, Try.ntmps41
    go_wp2_with (go_at_call 27; refine (refOne_any A _ c ls w HRR.out hn).mono ?_; rintro e w' ⟨rfl, rfl⟩; rw [HX.out, H1.out])
    go_ret
    exact ⟨rfl, rfl⟩
  · go_enter Try.func41, Try.ntmps41
    go_wp2_with (go_at_call 27; refine (refOne_any A _ c ls w HRR.out hn).mono ?_; rintro e w' ⟨rfl, rfl⟩; rw [HX.out, H1.out])
    go_ret
    exact ⟨rfl, rfl⟩

def lgUp (ls : List Int) : Nat → Int
  | 0 => 0
  | k + 1 => if lgUp ls k < ln ls k then ln ls k else lgUp ls k
theorem lgUp_bounds {ls : List Int} (hc : checkS ls = 0) (k : Nat) : 0 ≤ lgUp ls k ∧ lgUp ls k ≤ 15 := by
  induction k with
  | zero => simp [lgUp]
  | succ k ih => have := (complete hc).1 k; simp only [lgUp]; split <;> omega
theorem lgUp_ge (ls : List Int) (k t : Nat) (h : t < k) : ln ls t ≤ lgUp ls k := by
  induction k with
  | zero => omega
  | succ k ih =>
    simp only [lgUp]
    by_cases e : t = k
    · subst e; split <;> omega
    · have := ih (by omega)
      split <;> omega
def cntCells (ls : List Int) (k : Nat) : Array Value := ((cntK ls k).map (fun x => Value.int .i64 x)).toArray
theorem cntCells_zero (ls : List Int) : cntCells ls 0 = #[.int .i64 0, .int .i64 0, .int .i64 0, .int .i64 0, .int .i64 0, .int .i64 0, .int .i64 0, .int .i64 0, .int .i64 0, .int .i64 0, .int .i64 0, .int .i64 0, .int .i64 0, .int .i64 0, .int .i64 0, .int .i64 0] := by
  unfold cntCells; rw [cntK_zero]; rfl
theorem cntCells_get (ls : List Int) (k m : Nat) (h : m < 16) : (cntCells ls k)[m]? = some (.int .i64 ((eqUp ls (m : Int) k : Nat) : Int)) := by
  unfold cntCells
  rw [List.getElem?_toArray, List.getElem?_map, cntK_get ls k m h]; rfl
theorem cntCells_next (ls : List Int) (k m : Nat) (h : ln ls k = m) (hm : m < 16) : (cntCells ls k).setIfInBounds m (.int .i64 (((eqUp ls (m : Int) k : Nat) : Int) + 1)) = cntCells ls (k + 1) := by
  unfold cntCells
  apply Array.ext'
  rw [Array.toList_setIfInBounds]
  show ((cntK ls k).map (fun x => Value.int .i64 x)).set m _ = (cntK ls (k + 1)).map (fun x => Value.int .i64 x)
  rw [← cntK_next ls k m h hm, List.map_set]
theorem rd_codes2 {ls : List Int} {k : Nat} (hk : k < ls.length) (h : 0 < ln ls k) : rd (codesS ls) (k : Int) = codeS ls k := by
  unfold rd
  rw [Int.toNat_natCast, List.getD_eq_getElem?_getD, codesS_get _ _ hk, if_pos h]; rfl
def SymPost (g : Nat) (X : Option Addr) (bs : List Int) (p n s : Nat) (w : World) (e : Ending) (w' : World) : Prop :=
  (p + n ≤ 8 * bs.length → e = .returned (.int .i64 s) ∧ Eye w' g X bs (p + n) false) ∧ (8 * bs.length < p + n → e = .returned (.int .i64 (-1)) ∧ Eye w' g X bs (8 * bs.length) true) ∧ Mods [g] w w'

set_option maxHeartbeats 1000000 in
theorem symbol_in (g : Nat) (ls : List Int) (A : Option Addr) (c : Nat) (C : Option Addr) (cc : Nat) (X : Option Addr) (bs : List Int) (p n s : Nat) (w : World) (HR : ReadsInt w .i64 A ls.length ls) (HC : ReadsInt w .u32 C ls.length (codesS ls)) (hA : ∀ ad, A = some ad → ad.block ≠ g) (hC : ∀ ad, C = some ad → ad.block ≠ g) (hn : ls.length ≤ 17592186044416) (hz : checkS ls = 0) (h1 : (oneS ls).2 = false) (h : Eye w g X bs p false) (hf : Found ls bs p n s) :
    Calls Try.prog 41 #[.slice A ls.length c, .slice C ls.length cc, .pointer (some ⟨g, 0, none⟩)] w (SymPost g X bs p n s w) := by
  have HRR := Lib.hid HR; have HCC := Lib.hid HC; have HZ := Lib.hid hz; have HF := Lib.hid hf; have H := Lib.hid h; have HA := Lib.hid hA; have HCn := Lib.hid hC; have H1 := Lib.hid h1
  obtain ⟨x, HX⟩ : ∃ v, Hid ((oneS ls).1 = v) := ⟨_, rfl⟩
  clear HR HC hz hf h hA hC h1
  go_enter Try.func41, Try.ntmps41
  go_wp2_with (go_at_call 27; refine (refOne_any A _ c ls w HRR.out hn).mono ?_; rintro e w' ⟨rfl, rfl⟩; rw [HX.out, H1.out])
  go_loop [10, 11] (fun m i => ∃ k : Nat, k ≤ ls.length ∧ i = .int .i64 k ∧ m = .int .i64 (lgUp ls k)) (fun _ i => ls.length - (intOf i).toNat)
  case atStart => exact ⟨0, by omega, rfl, rfl⟩
  case round =>
    obtain ⟨k, hk, rfl, rfl⟩ := hrel
    have hlg := lgUp_bounds HZ.out k
    by_cases hlt : k < ls.length
    · obtain ⟨ad, hA, hcell⟩ := ReadsInt.at_ HRR.out (k : Int) (by omega) (by omega)
      rw [Int.toNat_natCast, rd_ln] at hcell
      subst hA
      by_cases hm : lgUp ls k < ln ls k
      · have HS := Lib.hid (show lgUp ls (k + 1) = ln ls k from by simp only [lgUp]; rw [if_pos hm])
        go_wp2_with fail
        go_round
        case rel => exact ⟨k + 1, by omega, by go_num, by rw [HS.out]⟩
        case measure => simp [intOf]; omega
      · have HS := Lib.hid (show lgUp ls (k + 1) = lgUp ls k from by simp only [lgUp]; rw [if_neg hm])
        go_wp2_with fail
        go_round
        case rel => exact ⟨k + 1, by omega, by go_num, by rw [HS.out]⟩
        case measure => simp [intOf]; omega
    · obtain rfl : k = ls.length := by omega
      go_wp2_with fail
      have hblk : (w.alloc (.cells (cntCells ls 0) 102)).heap[w.heap.size]? = some (.cells (cntCells ls 0) 102 (0, 0)) := blk_alloc _
      have hM0 : Mods [] w (w.alloc (.cells (cntCells ls 0) 102)) := (Mods.refl [] w).alloc _
      rw [← cntCells_zero ls]
      have hgb : g ≠ w.heap.size := by have := H.out.lt; omega
      have HGB := Lib.hid hgb
      generalize w.alloc (.cells (cntCells ls 0) 102) = w0 at *
      generalize hbb : w.heap.size = b at *
      have HBK := Lib.hid hblk; have HM0 := Lib.hid hM0; have HBB := Lib.hid hbb
      clear hblk hM0 hbb hgb
      go_loopw [13] (fun i wr => ∃ k : Nat, k ≤ ls.length ∧ i = .int .i64 k ∧ Hid (wr.heap[b]? = some (.cells (cntCells ls k) 102 (0, 0))) ∧ Hid (Mods [] w wr)) (fun i _ => ls.length - (intOf i).toNat)
      case atStart => exact ⟨0, by omega, rfl, HBK.out, HM0.out⟩
      case round =>
        obtain ⟨k, hk, rfl, HK, HM⟩ := hrel
        by_cases hlt : k < ls.length
        · obtain ⟨ad, hA, hcell⟩ := ReadsInt.at_ (ReadsInt.mods HRR.out HM.out (by simp)) (k : Int) (by omega) (by omega)
          rw [Int.toNat_natCast, rd_ln] at hcell
          subst hA
          obtain ⟨hl0, hl1⟩ := (complete HZ.out).1 k
          obtain ⟨m, hm⟩ := Int.eq_ofNat_of_zero_le hl0
          have HMK := Lib.hid hm
          rw [hm] at hcell
          have hm15 : m < 16 := by omega
          have hcm : wr.cell? ⟨b, m, none⟩ = some (.int .i64 (eqUp ls m k : Nat)) := by rw [cell_blk HK.out]; exact cntCells_get ls k m hm15
          have hfm : wr.frozen? ⟨b, m, none⟩ = false := free_blk HK.out _
          have hle := eqUp_le ls m k
          generalize hq : eqUp ls m k = q at *
          have HQ := Lib.hid hq
          have hmi : (m : Int) < 16 := by omega
          have hmt : ((m : Int)).toNat = m := by omega
          have hbk6 := blk_set HK.out m (.int .i64 ((q : Int) + 1))
          rw [show (cntCells ls k).setIfInBounds m (.int .i64 ((q : Int) + 1)) = cntCells ls (k + 1) from by rw [← HQ.out]; exact cntCells_next ls k m HMK.out hm15] at hbk6
          have HBK6 := Lib.hid hbk6; have HM6 := Lib.hid (HM.out.setCell (p := ⟨b, m, none⟩) (.inr (by rw [HBB.out]; exact Nat.le_refl _)) (.int .i64 ((q : Int) + 1)))
          clear hm hl0 hl1 hq hbk6
          go_wp2_with fail
          go_roundw
          case rel => exact ⟨k + 1, by omega, by go_num, HBK6.out, HM6.out⟩
          case measure => simp [intOf]; omega
        · obtain rfl : k = ls.length := by omega
          go_wp2_with fail
          have hl0 := upTo_zero ls
          go_loopw [9, 14, 15, 16] (fun v f i _ wr => ∃ m : Nat, m < n ∧ p + m ≤ 8 * bs.length ∧ i = .int .i64 (m + 1 : Nat) ∧ f = .int .u32 (upTo ls m ls.length) ∧ v = .int .u32 (vAt bs p m) ∧ Hid (wr.heap[b]? = some (.cells (cntCells ls ls.length) 102 (0, 0))) ∧ Hid (Eye wr g X bs (p + m) false) ∧ Hid (Mods [g] w wr)) (fun _ _ i _ _ => 16 - (intOf i).toNat)
          case atStart => exact ⟨0, by have := HF.out.1; omega, by have := H.out.1; omega, rfl, by rw [show ((0 : Nat) : Int) = 0 from rfl, hl0], rfl, HK.out, H.out.mods HM.out (by simp) (by simp), HM.out.mono (by simp)⟩
          case round =>
            obtain ⟨m, hm, hpm, rfl, rfl, rfl, HK, HE, HM⟩ := hrel
            have hn15 := HF.out.2.1
            have hv := vAt_bounds bs p m
            have hpw : (2 : Int) ^ m ≤ 2 ^ 15 := by exact_mod_cast Nat.pow_le_pow_right (by decide) (by omega)
            have hu1 := upTo_lt HZ.out m ls.length (by omega)
            have hu0 := upTo_nonneg ls m ls.length
            have hb := bitAt_bounds bs (p + m)
            have hlong : ((m + 1 : Nat) : Int) ≤ lgUp ls ls.length := by
              have h1 := lgUp_ge ls ls.length s HF.out.2.2.1
              have h2 := HF.out.2.2.2.1
              omega
            by_cases hmore : p + m + 1 ≤ 8 * bs.length
            · have hbv := Lib.hid (bitsVal_one bs (p + m))
              go_wp2_with fail
              refine (num_to (bitAt bs (p + m)) g X bs (p + m) 1 wr hbv (by omega) (by omega) (by omega) HE.out).mono ?_
              rintro e w2 ⟨rfl, hE2, hM2⟩
              have hk2 := hM2.blk HK.out (by have := HGB.out; simp; omega)
              have hsh : w2.cell? ⟨g, 2, none⟩ = some (.bool false) := by obtain ⟨_, _, ⟨_, h⟩, _⟩ := hE2; exact cell_blk h 2
              have hcm : w2.cell? ⟨b, m + 1, none⟩ = some (.int .i64 (eqUp ls (m + 1 : Nat) ls.length : Nat)) := by rw [cell_blk hk2]; exact cntCells_get ls _ (m + 1) (by omega)
              have hu2 : upTo ls (m + 1 : Nat) 0 = upTo ls m ls.length * 2 := upTo_next ls m
              have hu3 := upTo_eq ls (m + 1 : Nat) (by omega) ls.length (Nat.le_refl _)
              have hV : vAt bs p (m + 1) = vAt bs p m * 2 + bitAt bs (p + m) := rfl
              have hel := eqUp_le ls (m + 1 : Nat) ls.length
              have hu4 := upTo_lt HZ.out (m + 1) ls.length (by omega)
              have hnf := HF.out.2.2.2.2.2 (m + 1) (by omega)
              have HE2 := Lib.hid hE2; have HK2 := Lib.hid hk2; have HM2 := Lib.hid (HM.out.trans hM2)
              clear hE2 hk2 hM2
              by_cases hlast : m + 1 = n
              · have hcode := HF.out.2.2.2.2.1
                have hus := upTo_code ls s
                rw [HF.out.2.2.2.1, upTo_eq ls n (by omega) s (by have := HF.out.2.2.1; omega)] at hus
                have hlt1 : eqUp ls n s < eqUp ls n ls.length := by
                  have h1 := eqUp_mono ls n (show s + 1 ≤ ls.length from HF.out.2.2.1)
                  rw [eqUp_hit ls n s HF.out.2.2.2.1] at h1; omega
                rw [← hlast] at hus hcode hlt1
                have HEf := Lib.hid (show Eye w2 g X bs (p + n) false from by rw [← hlast, ← Nat.add_assoc]; exact HE2.out)
                have HFL := Lib.hid (show ln ls s = ((m + 1 : Nat) : Int) from by rw [HF.out.2.2.2.1, hlast])
                have HVC := Lib.hid (show codeS ls s = vAt bs p m * 2 + bitAt bs (p + m) from hcode)
                have hsl : s < ls.length := HF.out.2.2.1
                have HOUT := Lib.hid (show p + n ≤ 8 * bs.length from by omega)
                clear hnf hlast
                rw [hV] at hcode
                generalize vAt bs p m = V at *
                generalize upTo ls m ls.length = U at *
                generalize upTo ls (m + 1 : Nat) ls.length = U2 at *
                generalize upTo ls (m + 1 : Nat) 0 = U3 at *
                generalize eqUp ls (m + 1 : Nat) ls.length = cn at *
                generalize eqUp ls (m + 1 : Nat) s = es at *
                generalize bitAt bs (p + m) = bt at *
                clear hV
                have hd : V * 2 + bt < U * 2 + (cn : Int) := by omega
                clear hcode hus
                go_wp2_with fail
                go_loop [16] (fun i => ∃ k : Nat, k ≤ s ∧ i = .int .i64 k) (fun i => ls.length - (intOf i).toNat)
                case atStart => exact ⟨0, by omega, rfl⟩
                case round =>
                  obtain ⟨k, hks, rfl⟩ := hrel
                  obtain ⟨ad, hAd, hcell0⟩ := ReadsInt.at_ (ReadsInt.mods HRR.out HM2.out (fun d e => by simpa using HA.out d e)) (k : Int) (by omega) (by omega)
                  rw [Int.toNat_natCast, rd_ln] at hcell0
                  obtain ⟨bd, hBd, hcell1⟩ := ReadsInt.at_ (ReadsInt.mods HCC.out HM2.out (fun d e => by simpa using HCn.out d e)) (k : Int) (by omega) (by omega)
                  rw [Int.toNat_natCast] at hcell1
                  subst hAd
                  subst hBd
                  have hki : (k : Int) < (ls.length : Int) := by omega
                  by_cases hkeq : k = s
                  · have HKS := Lib.hid hkeq
                    have hl1 : (ln ls k == (m : Int) + 1) = true := by rw [hkeq, HFL.out]; simp
                    have hpos : 0 < ln ls s := by rw [HFL.out]; omega
                    rw [hkeq, rd_codes2 hsl hpos, HVC.out, ← hkeq] at hcell1
                    clear hkeq hpos
                    go_wp2_with fail
                    go_ret
                    rw [HKS.out]
                    exact ⟨fun _ => ⟨rfl, HEf.out⟩, fun h => by have := HOUT.out; omega, HM2.out⟩
                  · by_cases hkl : ln ls k = ((m : Int) + 1)
                    · have hl1 : (ln ls k == (m : Int) + 1) = true := by rw [hkl]; simp
                      have hpos : 0 < ln ls k := by rw [hkl]; omega
                      rw [rd_codes2 (by omega) hpos] at hcell1
                      have hap := code_apart (ls := ls) (i := k) (k := s) (by omega) (by rw [ahead_iff, HFL.out]; omega)
                      rw [hkl, HFL.out, show (((m + 1 : Nat) : Int) - ((m : Int) + 1)).toNat = 0 from by omega, HVC.out] at hap
                      have hl2 : (codeS ls k == V * 2 + bt) = false := by simp at hap ⊢; omega
                      clear hkl hpos hap
                      go_wp2_with fail
                      go_round
                      case rel => exact ⟨k + 1, by omega, by go_num⟩
                      case measure => simp [intOf]; omega
                    · have hl1 : (ln ls k == (m : Int) + 1) = false := by simp [hkl]
                      clear hkl
                      go_wp2_with fail
                      go_round
                      case rel => exact ⟨k + 1, by omega, by go_num⟩
                      case measure => simp [intOf]; omega
              · have hnf1 := hnf (by omega)
                generalize hgV' : vAt bs p (m + 1) = V' at *
                generalize vAt bs p m = V at *
                generalize upTo ls m ls.length = U at *
                generalize hgU2 : upTo ls (m + 1 : Nat) ls.length = U2 at *
                generalize upTo ls (m + 1 : Nat) 0 = U3 at *
                generalize eqUp ls (m + 1 : Nat) ls.length = cn at *
                generalize bitAt bs (p + m) = bt at *
                subst hV
                have hd : ¬ V * 2 + bt < U * 2 + (cn : Int) := by omega
                have HG1 := Lib.hid hgV'; have HG2 := Lib.hid hgU2
                have HE' := Lib.hid (show U * 2 + (cn : Int) = U2 from by omega)
                clear hgV' hgU2 hnf
                go_wp2_with fail
                go_roundw
                case rel => exact ⟨m + 1, by omega, by omega, by go_num, by rw [HG2.out, ← HE'.out], by rw [HG1.out], HK2.out, HE2.out, HM2.out⟩
                case measure => simp [intOf]; omega
            · go_wp2_with fail
              refine (num_out g X bs (p + m) false 1 wr (.inr (by omega)) (by omega) (by omega) HE.out).mono ?_
              rintro e w2 ⟨rfl, hE2, hM2⟩
              have hsh : w2.cell? ⟨g, 2, none⟩ = some (.bool true) := by obtain ⟨_, _, ⟨_, h⟩, _⟩ := hE2; exact cell_blk h 2
              have e8 : p + m = 8 * bs.length := by omega
              have HE2 := Lib.hid (show Eye w2 g X bs (8 * bs.length) true from by rw [← e8]; exact hE2); have HM2 := Lib.hid (HM.out.trans hM2)
              have HOUT := Lib.hid (show 8 * bs.length < p + n from by omega)
              clear hE2 hM2 e8
              go_wp2_with fail
              go_ret
              exact ⟨fun h => by have := HOUT.out; omega, fun _ => ⟨rfl, HE2.out⟩, HM2.out⟩
end Go.Proofs.Ytoanhnebalapeaa
