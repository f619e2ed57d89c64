/- The law TreeReads. -/
import Derived.Test.YtoanhnebalapeaaLaws05
namespace Go.Proofs.Ytoanhnebalapeaa
open Go.RowKit
open Go.Proofs.YtoanhnebalapeaaW.PrintWords
open Srt

theorem kraft_of2 {ls : List Int} (hc : checkS ls = 0) (h : (oneS ls).2 = false) : kraft ls = 32768 := by
  have h1 := one_many (ls := ls) (fun t => ((complete hc).1 t).1)
  rcases (complete hc).2.1 with h2 | h2
  · rw [h1.2 h2] at h; exact absurd h (by decide)
  · exact h2
theorem oneS_nonneg (ls : List Int) : 0 ≤ (oneS ls).1 := by
  unfold oneS oneOf
  split <;> simp
theorem checkS_range (ls : List Int) : 0 ≤ checkS ls ∧ checkS ls ≤ 8 := by unfold checkS; split <;> (try split) <;> omega

set_option maxRecDepth 8000 in
set_option maxHeartbeats 2000000 in
theorem law_TreeReads (A : Option Addr) (n c : Nat) (ls : List Int) (D : Option Addr) (m d : Nat) (bs : List Int) (w : World) (HR : ReadsInt w .i64 A n ls) (HS : ReadsInt w .u8 D m bs) (hb : ∀ x ∈ bs, 0 ≤ x ∧ x ≤ 255) :
    Calls Try.prog 13 #[.slice A n c, .slice D m d] w fun e w' => e = .returned (.bool true) ∧ Below w.heap.size w w' := by
  have HRR := Lib.hid HR; have HSS := Lib.hid HS; have HX := Lib.hid hb; have HLb := Lib.hid HS.1
  have hl0 := HR.1
  clear HR HS hb
  subst hl0
  by_cases hn : 2000 < ls.length ∨ 60 < m
  · by_cases hn1 : 2000 < ls.length
    · go_enter Try.func13, Try.ntmps13
      go_wp2_with (go_at_call 36; refine (answers05 _).mono ?_; rintro e w1 ⟨rfl, hB⟩)
      go_ret
      exact ⟨rfl, hB⟩
    · have hn2 : 60 < m := by omega
      go_enter Try.func13, Try.ntmps13
      go_wp2_with (go_at_call 36; refine (answers05 _).mono ?_; rintro e w1 ⟨rfl, hB⟩)
      go_ret
      exact ⟨rfl, hB⟩
  · obtain ⟨hn1, hn2⟩ : ¬ 2000 < ls.length ∧ ¬ 60 < m := by omega
    clear hn
    have hS := checkS_range ls
    go_enter Try.func13, Try.ntmps13
    go_wp2_with (at_builtin; refine print_append_row w.heap.size rfl _ _ 28 3 .i64 8 rfl Try.underlying28 info_int (by decide) _ [] ls A ls.length c rfl rfl (by exact own_lit w w.heap.size 3 .i64 [] (Nat.le_refl _) (by decide)) (by exact HRR.out.below ((Below.refl _ w).alloc (Nat.le_refl _) _)) ((Below.refl _ w).alloc (Nat.le_refl _) _) (by simp) (by simp; omega) ?_)
    intro v1 w1 hown hB1 _ _
    obtain ⟨A1, c1, rfl, hR1⟩ := own_reads hown
    have HR1 := Lib.hid hR1; have HB1 := Lib.hid hB1
    have HC1 := Lib.hid (own_cap hown)
    clear hown hB1 hR1
    by_cases hz : checkS ls = 0
    · have HZ := Lib.hid hz
      go_wp2_with fail
      refine (tree_new A1 ls.length c1 ls w1 HR1.out (by omega) (by have := HC1.out; omega) HZ.out).mono ?_
      rintro e w2 ⟨hB2, B, os, rfl, hB, hT⟩
      have HB2 := Lib.hid (below_then HB1.out HB1.out.size hB2); have HT := Lib.hid hT
      clear hB2 hT hB
      go_wp2_with (go_at_call 30; refine (refCheck_any A ls.length c ls _ (by exact HRR.out.below HB2.out) (by omega)).mono ?_; rintro e w' ⟨rfl, rfl⟩; rw [HZ.out])
      refine (answers05 _).mono ?_
      rintro e w3 ⟨rfl, hB3⟩
      have HB3 := Lib.hid (below_then HB2.out HB2.out.size hB3)
      have HT3 := Lib.hid (HT.out.below hB3)
      have hs23 := hB3.size
      generalize hhi : w2.heap.size = hi at *
      clear hB3 hhi
      go_wp2_with (go_at_call 30; refine (refCheck_any A ls.length c ls _ (by exact HRR.out.below HB3.out) (by omega)).mono ?_; rintro e w' ⟨rfl, rfl⟩; rw [HZ.out])
      refine (refCodes_any A ls.length c ls w3 (HRR.out.below HB3.out) (by omega) HZ.out).mono ?_
      rintro e w4 ⟨rfl, hO4, hB4⟩
      have hT4 := HT3.out.mods (Mods.of_below hB4 []) (by simp)
      have hs34 := hB4.size
      have hg4 : w3.heap.size < w4.heap.size := own_lt hO4 w3.heap.size rfl
      have HR4 := Lib.hid (own_reads' hO4); have HB4 := Lib.hid (below_then HB3.out HB3.out.size hB4); have HT4 := Lib.hid hT4
      generalize hg3 : w3.heap.size = g3 at *
      clear hO4 hB4 hT4 hg3
      go_wp2_with fail
      refine (newReader D m d bs w4 (HSS.out.below HB4.out) HX.out (by omega)).mono ?_
      rintro e w5 ⟨g, A', rfl, hg, hA', hR5, hB5⟩
      have hT5 := HT4.out.mods (Mods.of_below hB5 []) (by simp)
      have hs45 := hB5.size
      have hg5 : g < w5.heap.size := hR5.lt
      have HA' := Lib.hid (show bs ≠ [] → ∀ ad, A' = some ad → ad.block < w5.heap.size from fun h => hR5.blk h)
      have HR5 := Lib.hid hR5; have HB5 := Lib.hid (below_then HB4.out HB4.out.size hB5); have HT5 := Lib.hid hT5; have HRc5 := Lib.hid (HR4.out.below hB5)
      clear hA' hR5 hB5 hT5
      go_wp2_with fail
      refine (look_any D m d bs w5 (HSS.out.below HB5.out) HX.out (by omega)).mono ?_
      rintro e w6 ⟨g2, A2, rfl, hg2, hA2, hE6, hB6⟩
      have hT6 := HT5.out.mods (Mods.of_below hB6 []) (by simp)
      have hR6 := HR5.out.mods2 (S := []) (Mods.of_below hB6 []) (by simp) (by simp)
      have HE6 := Lib.hid hE6; have HB6 := Lib.hid (below_then HB5.out HB5.out.size hB6); have HT6 := Lib.hid hT6; have HR6 := Lib.hid hR6; have HRc6 := Lib.hid (HRc5.out.below hB6); have HA2 := Lib.hid hA2
      have hs56 := hB6.size
      have hwA : ∀ ad, A = some ad → ls ≠ [] → ad.block < w.heap.size := fun ad e h => by
        obtain ⟨d, e2, hc⟩ := HRR.out.2.2 (by have := List.length_pos_iff.2 h; omega)
        rw [e] at e2; cases e2
        exact World.block_lt_of_cell? w _ (hc 0 (by have := List.length_pos_iff.2 h; omega))
      have HWA := Lib.hid hwA
      have hsw := HB4.out.size
      clear hE6 hB6 hT6 hR6 hA2 hwA
      have hne : ls ≠ [] := fun h => by
        have := HZ.out
        rw [h] at this
        exact absurd this (by decide)
      have HAg := Lib.hid (show ∀ ad, A = some ad → ad.block ≠ g2 from fun ad e => by have := HWA.out ad e hne; omega)
      have HCg := Lib.hid (show ∀ ad, (some (⟨g3, 0, none⟩ : Addr)) = some ad → ad.block ≠ g2 from fun ad e => by cases e; show g3 ≠ g2; omega)
      have HRl := Lib.hid (HRR.out.below HB6.out)
      have HAS := Lib.hid (show ∀ ad, A = some ad → ad.block ∉ [g, g2] from fun ad e => by have := HWA.out ad e hne; simp; omega)
      have HCS := Lib.hid (show ∀ ad, (some (⟨g3, 0, none⟩ : Addr)) = some ad → ad.block ∉ [g, g2] from fun ad e => by cases e; show g3 ∉ [g, g2]; simp; omega)
      have HRS := Lib.hid (show bs ≠ [] → ∀ ad, A' = some ad → ad.block ∉ [g2] from fun h ad e => by have := HA'.out h ad e; simp; omega)
      have HES := Lib.hid (show ∀ ad, A2 = some ad → ad.block ∉ [g] from fun ad e => by have := HA2.out ad e; simp; omega)
      have HOW := Lib.hid (show ∀ W, Mods [g, g2] w6 W → Below w.heap.size w W from fun W hM => Below.then_mods HB6.out HB6.out.size hM (by simp; omega))
      have HNE := Lib.hid hne
      have hgg : g ≠ g2 := by omega
      have hgh : hi ≤ g := by omega
      have hgh2 : hi ≤ g2 := by omega
      clear hne hz hS
      go_wp2_with fail
      go_loopw [10, 11, 12, 13] (fun i _ _ _ wr => ∃ k p : Nat, k ≤ 100 ∧ i = .int .i64 k ∧ Hid (Rdr wr g A' bs p false) ∧ Hid (Eye wr g2 A2 bs p false) ∧ Hid (IsTree wr B hi ls os) ∧ Hid (Mods [g, g2] w6 wr)) (fun i _ _ _ _ => 100 - (intOf i).toNat)
      case atStart => exact ⟨0, 0, by omega, rfl, HR6.out, HE6.out, HT6.out, Mods.refl _ _⟩
      case round =>
        obtain ⟨k, p, hk, rfl, HRd, HEy, HTr, HMo⟩ := hrel
        by_cases hlt : k < 100
        · obtain ⟨y, hy⟩ : ∃ y, (oneS ls).2 = y := ⟨_, rfl⟩
          cases y
          · have hkr := kraft_of2 HZ.out hy
            obtain ⟨nn, s, hf⟩ := found_ex HZ.out hkr bs p
            have HF := Lib.hid hf; have HY := Lib.hid hy
            clear hf hy hkr
            by_cases hin : p + nn ≤ 8 * bs.length
            · go_wp2_with fail
              refine (read_in B hi g ls os A' bs p nn s wr HTr.out HY.out HRd.out hgh HF.out hin).mono ?_
              rintro e w7 ⟨rfl, hR7, hM7⟩
              have HR7 := Lib.hid hR7
              have HT7 := Lib.hid (HTr.out.mods hM7 (by simpa using hgh))
              have HE7 := Lib.hid (HEy.out.mods hM7 (by simp; omega) HES.out)
              have HM7 := Lib.hid (HMo.out.trans (hM7.mono (by simp)))
              clear hR7 hM7
              go_wp2_with fail
              refine (symbol_in g2 ls A c (some ⟨g3, 0, none⟩) ls.length A2 bs p nn s w7 (ReadsInt.mods HRl.out HM7.out HAS.out) (ReadsInt.mods HRc6.out HM7.out HCS.out) HAg.out HCg.out (by omega) HZ.out HY.out HE7.out HF.out).mono ?_
              rintro e w8 ⟨hi1, _, hM8⟩
              obtain ⟨rfl, hE8⟩ := hi1 hin
              have HE8 := Lib.hid hE8
              have HR8 := Lib.hid (HR7.out.mods2 hM8 (by simp; omega) HRS.out)
              have HT8 := Lib.hid (HT7.out.mods hM8 (by simpa using hgh2))
              have HM8 := Lib.hid (HM7.out.trans (hM8.mono (by simp)))
              clear hM8 hE8
              go_wp2_with fail
              go_roundw
              case rel => exact ⟨k + 1, p + nn, by omega, by go_num, HR8.out, HE8.out, HT8.out, HM8.out⟩
              case measure => simp [intOf]; omega
            · go_wp2_with fail
              refine (read_out B hi g ls os A' bs p nn s wr HTr.out HY.out HRd.out hgh HF.out (by omega)).mono ?_
              rintro e w7 ⟨rfl, hR7, hM7⟩
              have HE7 := Lib.hid (HEy.out.mods hM7 (by simp; omega) HES.out)
              have HM7 := Lib.hid (HMo.out.trans (hM7.mono (by simp)))
              clear hR7 hM7
              go_wp2_with fail
              refine (symbol_in g2 ls A c (some ⟨g3, 0, none⟩) ls.length A2 bs p nn s w7 (ReadsInt.mods HRl.out HM7.out HAS.out) (ReadsInt.mods HRc6.out HM7.out HCS.out) HAg.out HCg.out (by omega) HZ.out HY.out HE7.out HF.out).mono ?_
              rintro e w8 ⟨_, hi2, hM8⟩
              obtain ⟨rfl, hE8⟩ := hi2 (by omega)
              have HM8 := Lib.hid (HM7.out.trans (hM8.mono (by simp)))
              clear hM8 hE8
              go_wp2_with fail
              go_ret
              exact ⟨rfl, HOW.out _ HM8.out⟩
          · have HY := Lib.hid hy
            clear hy
            obtain ⟨x, HXX⟩ : ∃ v, Hid ((oneS ls).1 = v) := ⟨_, rfl⟩
            have hx0 : 0 ≤ x := by rw [← HXX.out]; exact oneS_nonneg ls
            go_wp2_with fail
            refine (read_one B hi g ls os A' bs p wr HTr.out HY.out HRd.out).mono ?_
            rintro e w' ⟨rfl, rfl⟩
            rw [HXX.out]
            go_wp2_with fail
            refine (symbol_one g2 ls A c (some ⟨g3, 0, none⟩) ls.length A2 bs p false wr (ReadsInt.mods HRl.out HMo.out HAS.out) (by omega) HY.out HEy.out).mono ?_
            rintro e w' ⟨rfl, rfl⟩
            rw [HXX.out]
            go_wp2_with fail
            go_roundw
            case rel => exact ⟨k + 1, p, by omega, by go_num, HRd.out, HEy.out, HTr.out, HMo.out⟩
            case measure => simp [intOf]; omega
        · go_wp2_with fail
          go_ret
          exact ⟨rfl, HOW.out _ HMo.out⟩
    · have hzb : (checkS ls != 0) = true := by simp [hz]
      have hzb2 : (checkS ls == 0) = false := by simp [hz]
      have HZ := Lib.hid hz
      clear hz
      go_wp2_with fail
      refine (tree_bad A1 ls.length c1 ls w1 HR1.out (by omega) HZ.out).mono ?_
      rintro e w' ⟨rfl, rfl⟩
      go_wp2_with (go_at_call 30; refine (refCheck_any A ls.length c ls _ (by exact HRR.out.below HB1.out) (by omega)).mono ?_; rintro e w' ⟨rfl, rfl⟩)
      refine (answers05 _).mono ?_
      rintro e w3 ⟨rfl, hB3⟩
      have HB3 := Lib.hid (below_then HB1.out HB1.out.size hB3)
      clear hB3
      go_wp2_with fail
      go_ret
      exact ⟨rfl, HB3.out⟩
end Go.Proofs.Ytoanhnebalapeaa
