/- The law CodeSplits. -/
import Derived.Test.YtoanhnebalapeaaLaws04
import Derived.Test.YtoanhnebalapeaaCodeP4
namespace Go.Proofs.Ytoanhnebalapeaa
open Go.RowKit
open Go.Proofs.YtoanhnebalapeaaW.PrintWords
open Srt

theorem ln_set (ls : List Int) (i t : Nat) (x : Int) (hi : i < ls.length) : ln (ls.set i x) t = if t = i then x else ln ls t := by
  unfold ln
  rw [List.getElem?_set]
  by_cases e : i = t
  · subst e; simp [hi]
  · rw [if_neg e, if_neg (fun h => e h.symm)]
theorem any_bad {ls : List Int} : ls.any badLen = false ↔ ∀ t, t < ls.length → 0 ≤ ln ls t ∧ ln ls t ≤ 15 := by
  constructor
  · intro h t ht
    rw [List.any_eq_false] at h
    have := h (ln ls t) (ln_mem ht)
    simp [badLen] at this; omega
  · intro h
    rw [List.any_eq_false]
    intro x hx
    obtain ⟨i, hi, rfl⟩ := List.getElem_of_mem hx
    have := h i hi
    rw [ln_get hi] at this
    simp [badLen]; omega
theorem wgt_half (x : Int) (h0 : 0 < x) (h1 : x ≤ 14) : wgt (x + 1) + wgt (x + 1) = wgt x := by
  unfold wgt
  rw [if_pos h0, if_pos (by omega), show 15 - x.toNat = (15 - (x + 1).toNat) + 1 from by omega, Int.pow_succ]
  omega
theorem wgt_pos (x : Int) (h0 : 0 < x) : 0 < wgt x := by unfold wgt; rw [if_pos h0]; exact two_pow_pos _
theorem split_ok {ls : List Int} {i k : Nat} (hc : checkS ls = 0) (hk : kraft ls = 32768) (hi : i < ls.length) (hkl : k < ls.length) (h0 : 0 < ln ls i) (h1 : ln ls i ≤ 14) (hz : ln ls k = 0) :
    checkS ((ls.set i (ln ls i + 1)).set k (ln ls i + 1)) = 0 := by
  have hne : k ≠ i := fun h => by subst h; omega
  have hl : ∀ t, ln ((ls.set i (ln ls i + 1)).set k (ln ls i + 1)) t = if t = k then ln ls i + 1 else if t = i then ln ls i + 1 else ln ls t := fun t => by
    rw [ln_set _ _ _ _ (by simpa using hkl), ln_set _ _ _ _ hi]
  unfold checkS
  have hb : ((ls.set i (ln ls i + 1)).set k (ln ls i + 1)).any badLen = false := by
    rw [any_bad]
    intro t _
    have := (complete hc).1 t
    rw [hl t]; split
    · omega
    · split <;> omega
  rw [if_neg (by rw [hb]; simp)]
  rw [if_pos]
  right
  unfold kraft
  have hlen : ((ls.set i (ln ls i + 1)).set k (ln ls i + 1)).length = ls.length := by simp
  rw [hlen]
  have e1 := sumTo_one (n := ls.length) (f := fun t => wgt (ln ls t)) (g := fun t => wgt (if t = i then ln ls i + 1 else ln ls t)) i hi (fun t _ h => by simp [h])
  have e2 := sumTo_one (n := ls.length) (f := fun t => wgt (if t = i then ln ls i + 1 else ln ls t)) (g := fun t => wgt (ln ((ls.set i (ln ls i + 1)).set k (ln ls i + 1)) t)) k hkl (fun t _ h => by rw [hl t, if_neg h])
  rw [e2, e1]
  have e3 : sumTo ls.length (fun t => wgt (ln ls t)) = 32768 := hk
  have e4 := wgt_half (ln ls i) h0 h1
  have e5 : wgt 0 = 0 := rfl
  simp only [hl, if_true, if_neg hne, hz]
  simp only [if_true] at *
  omega
theorem kraft_of {ls : List Int} (hc : checkS ls = 0) (h : (oneS ls).2 = false) : kraft ls = 32768 := by
  have h1 := one_many (ls := ls) (fun t => ((complete hc).1 t).1)
  rcases (complete hc).2.1 with h2 | h2
  · rw [h1.2 h2] at h; exact absurd h (by decide)
  · exact h2
theorem left_out {ls : List Int} {i : Nat} (hc : checkS ls = 0) (hk : kraft ls = 32768) (hi : i < ls.length) (h0 : 0 < ln ls i) (hno : (oneS (ls.set i 0)).2 = false) : checkS (ls.set i 0) = 3 := by
  have hl : ∀ t, ln (ls.set i 0) t = if t = i then 0 else ln ls t := fun t => ln_set _ _ _ _ hi
  have hr : ∀ t, 0 ≤ ln (ls.set i 0) t ∧ ln (ls.set i 0) t ≤ 15 := fun t => by
    have := (complete hc).1 t
    rw [hl t]; split <;> omega
  unfold checkS
  rw [if_neg (by rw [any_bad.2 (fun t _ => hr t)]; simp), if_neg]
  intro h
  rcases h with h | h
  · rw [(one_many (fun t => (hr t).1)).2 h] at hno; exact absurd hno (by decide)
  · have e1 := sumTo_one (n := ls.length) (f := fun t => wgt (ln ls t)) (g := fun t => wgt (ln (ls.set i 0) t)) i hi (fun t _ h => by rw [hl t, if_neg h])
    unfold kraft at h hk
    rw [List.length_set, e1, hl i, if_pos rfl, hk] at h
    have := wgt_pos _ h0
    have e5 : wgt 0 = 0 := rfl
    omega

set_option maxHeartbeats 1000000 in
set_option maxRecDepth 8000 in
theorem law_CodeSplits (A : Option Addr) (n c : Nat) (ls : List Int) (a b : Int) (w : World) (HR : ReadsInt w .i64 A n ls) (hc : n ≤ c) (ha : 0 ≤ a ∧ a ≤ 65535) (hb : 0 ≤ b ∧ b ≤ 65535) :
    Calls Try.prog 6 #[.slice A n c, .int .u16 a, .int .u16 b] w fun e w' => e = .returned (.bool true) ∧ Below w.heap.size w w' := by
  have HRR := Lib.hid HR; have HL := Lib.hid HR.1
  clear HR
  by_cases hn0 : n = 0
  · subst hn0
    go_enter Try.func6, Try.ntmps6
    go_wp2_with (go_at_call 25; refine (answers04 _).mono ?_; rintro e w1 ⟨rfl, hB⟩)
    go_ret
    exact ⟨rfl, hB⟩
  by_cases hn : 300 < n
  · go_enter Try.func6, Try.ntmps6
    go_wp2_with (go_at_call 25; refine (answers04 _).mono ?_; rintro e w1 ⟨rfl, hB⟩)
    go_ret
    exact ⟨rfl, hB⟩
  · by_cases hz : checkS ls = 0
    · have hzb : (checkS ls != 0) = false := by simp [hz]
      have HZ := Lib.hid hz
      clear hz
      have hn1 : ((n : Int) == 0) = false := by simp; omega
      have hn2 : decide (300 < (n : Int)) = false := by simp; omega
      have hn3 : (n : Int) ≠ 0 := by omega
      obtain ⟨x, HX⟩ : ∃ v, Hid ((oneS ls).1 = v) := ⟨_, rfl⟩
      obtain ⟨y, HY⟩ : ∃ v, Hid ((oneS ls).2 = v) := ⟨_, rfl⟩
      go_enter Try.func6, Try.ntmps6
      go_wp2_with (first | (go_at_call 26; refine (one_any A n c ls w HRR.out (by omega) hc).mono ?_; rintro e w' ⟨rfl, rfl⟩; rw [HX.out, HY.out]) | (go_at_call 30; refine (refCheck_any A n c ls w HRR.out (by omega)).mono ?_; rintro e w' ⟨rfl, rfl⟩))
      go_quiet (fail)
      obtain ⟨i, hi⟩ : ∃ i : Nat, a % (n : Int) = i := Int.eq_ofNat_of_zero_le (Int.emod_nonneg _ (by omega))
      obtain ⟨k, hk⟩ : ∃ k : Nat, b % (n : Int) = k := Int.eq_ofNat_of_zero_le (Int.emod_nonneg _ (by omega))
      have hin : i < n := by have := Int.emod_lt_of_pos a (show (0 : Int) < n by omega); omega
      have hkn : k < n := by have := Int.emod_lt_of_pos b (show (0 : Int) < n by omega); omega
      rw [hi, hk]
      clear hi hk
      obtain ⟨w1, hw1⟩ : ∃ w1 : World, w1 = w.drewN nq := ⟨_, rfl⟩
      rw [← hw1]
      have HB1 := Lib.hid (show Below w.heap.size w w1 from by rw [hw1]; exact pw_below_drewN (Below.refl _ _) nq)
      have hq1 : ReadsInt w1 .i64 A n ls := HRR.out.below HB1.out
      have HR1 := Lib.hid hq1
      clear hw1
      obtain ⟨ad, hA, hcell0⟩ := ReadsInt.at_ hq1 (i : Int) (by omega) (by omega)
      rw [Int.toNat_natCast, rd_ln] at hcell0
      obtain ⟨ad', hA', hcell1⟩ := ReadsInt.at_ hq1 (k : Int) (by omega) (by omega)
      rw [Int.toNat_natCast, rd_ln] at hcell1
      obtain rfl : ad = ad' := by rw [hA] at hA'; simpa using hA'
      subst hA
      clear hA' hq1
      have hL0 := HL.out
      have hii : (i : Int) < (n : Int) := by omega
      have hit : ((i : Int)).toNat = i := by omega
      have hki : (k : Int) < (n : Int) := by omega
      have hkt : ((k : Int)).toNat = k := by omega
      obtain ⟨hl0, hl1⟩ := (complete HZ.out).1 i
      cases y
      · by_cases h1 : ln ls i = 0
        · have hb1 : (ln ls i == 0) = true := by simp [h1]
          clear h1
          go_wp2_with fail
          refine (answers04 _).mono ?_
          rintro e w3 ⟨rfl, hB3⟩
          have HB3 := Lib.hid (below_then HB1.out HB1.out.size hB3)
          clear hB3
          go_wp2_with fail
          go_ret
          exact ⟨rfl, HB3.out⟩
        · have hb1 : (ln ls i == 0) = false := by simp [h1]
          by_cases h2 : 14 < ln ls i
          · have hb2 : decide (14 < ln ls i) = true := by simp [h2]
            go_wp2_with fail
            refine (answers04 _).mono ?_
            rintro e w3 ⟨rfl, hB3⟩
            have HB3 := Lib.hid (below_then HB1.out HB1.out.size hB3)
            clear hB3
            go_wp2_with fail
            go_ret
            exact ⟨rfl, HB3.out⟩
          · have hb2 : decide (14 < ln ls i) = false := by simp; omega
            by_cases h3 : ln ls k = 0
            · have hb3 : (ln ls k != 0) = false := by simp [h3]
              have hkf := kraft_of HZ.out HY.out
              have HOK := Lib.hid (split_ok (i := i) (k := k) HZ.out hkf (by omega) (by omega) (by omega) (by omega) h3)
              have HLEFT := Lib.hid (left_out HZ.out hkf (i := i) (by omega) (by omega))
              have hik : i ≠ k := fun e => h1 (by rw [e]; exact h3)
              have HIK := Lib.hid hik
              clear hkf h3 h1
              go_wp2_with (at_builtin; refine print_append_row w1.heap.size rfl _ _ 28 3 .i64 8 rfl Try.underlying28 info_int (by decide) _ [] ls (some ad) n c rfl rfl (by exact own_lit w1 w1.heap.size 3 .i64 [] (Nat.le_refl _) (by decide)) (by exact HR1.out.below ((Below.refl _ w1).alloc (Nat.le_refl _) _)) ((Below.refl _ w1).alloc (Nat.le_refl _) _) (by simp) (by simp; omega) ?_)
              intro v1 w2 hown hB2 _ _
              have hM2 : Mods [] w1 w2 := Mods.of_below hB2 []
              obtain ⟨g, c1, rfl, hg⟩ := own_some hown (by omega)

              obtain ⟨hc1, hf1⟩ := own_at hown (i : Int) (by omega) (by omega)
              rw [Int.toNat_natCast, rd_ln] at hc1
              rw [Int.toNat_natCast] at hf1
              obtain ⟨hc2, hf2⟩ := own_at hown (k : Int) (by omega) (by omega)
              rw [Int.toNat_natCast, rd_ln] at hc2
              rw [Int.toNat_natCast] at hf2
              have hO3 := (own_store hown (i : Int) (ln ls i + 1)).1
              rw [Int.toNat_natCast] at hO3
              have HO3 := Lib.hid hO3
              have HOWN := Lib.hid hown; have HM2 := Lib.hid hM2; have HG := Lib.hid hg
              have hO4 : ((w2.setCell ⟨g, i, none⟩ (.int .i64 (ln ls i + 1))).setCell ⟨g, k, none⟩ (.int .i64 (ln ls i + 1))).ownsRow w1.heap.size 3 1 (.slice (some ⟨g, 0, none⟩) n c1) n (nums .i64 ((ls.set i (ln ls i + 1)).set k (ln ls i + 1))) := by
                have h := (own_store hO3 (k : Int) (ln ls i + 1)).1
                rwa [Int.toNat_natCast] at h
              have hadg : ad.block ≠ g := by
                obtain ⟨d, e, hc'⟩ := HR1.out.2.2 (by omega)
                cases e
                have h5 : ad.block < w1.heap.size := World.block_lt_of_cell? w1 _ (hc' 0 (by omega))
                omega
              have hR2 : ReadsInt w2 .i64 (some ad) n ls := HR1.out.below hB2
              have hMm : Mods [g] w2 ((w2.setCell ⟨g, i, none⟩ (.int .i64 (ln ls i + 1))).setCell ⟨g, k, none⟩ (.int .i64 (ln ls i + 1))) := ((Mods.refl [g] w2).setCell (p := ⟨g, i, none⟩) (.inl (by simp)) _).setCell (p := ⟨g, k, none⟩) (.inl (by simp)) _
              have hRm : ReadsInt ((w2.setCell ⟨g, i, none⟩ (.int .i64 (ln ls i + 1))).setCell ⟨g, k, none⟩ (.int .i64 (ln ls i + 1))) .i64 (some ad) n ls := ReadsInt.mods hR2 hMm (fun d e => by cases e; simpa using hadg)
              have hlit : (((w2.setCell ⟨g, i, none⟩ (.int .i64 (ln ls i + 1))).setCell ⟨g, k, none⟩ (.int .i64 (ln ls i + 1))).alloc (.cells #[] 3)).ownsRow w2.heap.size 3 1 (.slice (some ⟨w2.heap.size, 0, none⟩) 0 0) 0 [] := by
                have := own_lit ((w2.setCell ⟨g, i, none⟩ (.int .i64 (ln ls i + 1))).setCell ⟨g, k, none⟩ (.int .i64 (ln ls i + 1))) w2.heap.size 3 .i64 [] (by simp) (by decide)
                simpa [nums] using this
              have hgl : g < w2.heap.size := own_lt hown g rfl
              have HO4 := Lib.hid hO4; have HRM := Lib.hid hRm; have HLIT := Lib.hid hlit; have HMM := Lib.hid hMm; have HGL := Lib.hid hgl
              have HBa : Hid (Below w2.heap.size ((w2.setCell ⟨g, i, none⟩ (.int .i64 (ln ls i + 1))).setCell ⟨g, k, none⟩ (.int .i64 (ln ls i + 1))) (((w2.setCell ⟨g, i, none⟩ (.int .i64 (ln ls i + 1))).setCell ⟨g, k, none⟩ (.int .i64 (ln ls i + 1))).alloc (.cells #[] 3))) := (Below.refl _ _).alloc (by simp) _
              clear hown hB2 hM2 hg hO3 hO4 hadg hR2 hMm hRm hlit hgl
              go_wp2_with (at_builtin; refine print_append_row w2.heap.size rfl _ _ 28 3 .i64 8 rfl Try.underlying28 info_int (by decide) _ [] ls (some ad) n c rfl rfl (by exact HLIT.out) (by exact HRM.out.below ((Below.refl _ _).alloc (Nat.le_refl _) _)) (by exact HBa.out) (by simp) (by simp; omega) ?_)
              intro v2 w3 hown3 hB3 _ _
              generalize hwm : ((w2.setCell ⟨g, i, none⟩ (.int .i64 (ln ls i + 1))).setCell ⟨g, k, none⟩ (.int .i64 (ln ls i + 1))) = wm at *
              have hsm : wm.heap.size = w2.heap.size := by rw [← hwm]; simp
              rw [← hsm] at hB3
              obtain ⟨g2, c2, rfl, hg2⟩ := own_some hown3 (by omega)
              obtain ⟨hc3, hf3⟩ := own_at hown3 (i : Int) (by omega) (by omega)
              rw [Int.toNat_natCast] at hc3 hf3
              have hO5 := (own_store hown3 (i : Int) 0).1
              rw [Int.toNat_natCast] at hO5
              have hMn : Mods [g2] w3 (w3.setCell ⟨g2, i, none⟩ (.int .i64 0)) := (Mods.refl [g2] w3).setCell (p := ⟨g2, i, none⟩) (.inl (by simp)) _
              have hOm : (w3.setCell ⟨g2, i, none⟩ (.int .i64 0)).ownsRow w1.heap.size 3 1 (.slice (some ⟨g, 0, none⟩) n c1) n (nums .i64 ((ls.set i (ln ls i + 1)).set k (ln ls i + 1))) :=
                RowI.mods (pw_own_below HO4.out hB3) hMn (by have := HGL.out; simp; omega)
              have hB5 : Below w.heap.size w (w3.setCell ⟨g2, i, none⟩ (.int .i64 0)) := by
                have q1 := HB1.out.size
                have q2 := HM2.out.size
                have q3 := HGL.out
                have q4 := HG.out
                have b1 := Below.then_mods HB1.out q1 HM2.out (by simp)
                have b2 := Below.then_mods b1 (by omega) HMM.out (by simp; omega)
                have b3 := below_then b2 (by omega) hB3
                exact Below.then_mods b3 (by have := hB3.size; omega) hMn (by simp; omega)
              have HO5 := Lib.hid hO5; have HOM := Lib.hid hOm; have HB5 := Lib.hid hB5
              clear hO5 hOm hB5 hMn hown3 hB3 hsm hwm hg2
              obtain ⟨z, hz⟩ : ∃ z, z = rd ls (i : Int) := ⟨_, rfl⟩
              rw [← hz] at hc3
              clear hz
              obtain ⟨x2, HX2⟩ : ∃ v, Hid ((oneS (ls.set i 0)).1 = v) := ⟨_, rfl⟩
              obtain ⟨y2, HY2⟩ : ∃ v, Hid ((oneS (ls.set i 0)).2 = v) := ⟨_, rfl⟩
              go_wp2_with fail
              refine (one_any (some ⟨g2, 0, none⟩) n c2 (ls.set i 0) _ (own_reads' HO5.out) (by omega) (own_cap HO5.out)).mono ?_
              rintro e w' ⟨rfl, rfl⟩
              rw [HX2.out, HY2.out]
              have HR5 := Lib.hid (own_reads' HO5.out); have HRm := Lib.hid (own_reads' HOM.out)
              generalize w3.setCell ⟨g2, i, none⟩ (.int .i64 0) = w4 at *
              go_wp2_with fail
              refine (answers04 _).mono ?_
              rintro e w5 ⟨rfl, hB6⟩
              have HB6 := Lib.hid (below_then HB5.out HB5.out.size hB6)
              have HR6 := Lib.hid (HR5.out.below hB6)
              have HRm6 := Lib.hid (HRm.out.below hB6)
              clear hB6
              have HCK := Lib.hid (check_any (some ⟨g, 0, none⟩) n c1 _ w5 HRm6.out (by omega))
              have HCK2 := Lib.hid (check_any (some ⟨g2, 0, none⟩) n c2 _ w5 HR6.out (by omega))
              go_wp2_with fail
              refine HCK.out.mono ?_
              rintro e w' ⟨rfl, rfl⟩
              rw [HOK.out]
              cases y2
              · go_wp2_with fail
                refine HCK2.out.mono ?_
                rintro e w' ⟨rfl, rfl⟩
                rw [HLEFT.out HY2.out]
                go_wp2_with fail
                go_ret
                exact ⟨rfl, HB6.out⟩
              · go_wp2_with fail
                go_ret
                exact ⟨rfl, HB6.out⟩
            · have hb3 : (ln ls k != 0) = true := by simp [h3]
              clear h3
              go_wp2_with fail
              refine (answers04 _).mono ?_
              rintro e w3 ⟨rfl, hB3⟩
              have HB3 := Lib.hid (below_then HB1.out HB1.out.size hB3)
              clear hB3
              go_wp2_with fail
              go_ret
              exact ⟨rfl, HB3.out⟩
      · go_wp2_with fail
        refine (answers04 _).mono ?_
        rintro e w3 ⟨rfl, hB3⟩
        have HB3 := Lib.hid (below_then HB1.out HB1.out.size hB3)
        clear hB3
        go_wp2_with fail
        go_ret
        exact ⟨rfl, HB3.out⟩
    · have hzb : (checkS ls != 0) = true := by simp [hz]
      clear hz
      go_enter Try.func6, Try.ntmps6
      go_wp2_with (first | (go_at_call 30; refine (refCheck_any A n c ls w HRR.out (by omega)).mono ?_; rintro e w' ⟨rfl, rfl⟩) | (go_at_call 25; refine (answers04 _).mono ?_; rintro e w1 ⟨rfl, hB⟩))
      go_ret
      exact ⟨rfl, hB⟩
end Go.Proofs.Ytoanhnebalapeaa
