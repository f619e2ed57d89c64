/- The law TreeOne. -/
import Derived.Test.YtoanhnebalapeaaLaws05
namespace Go.Proofs.Ytoanhnebalapeaa
open Go.RowKit
open Go.Proofs.YtoanhnebalapeaaW.PrintWords
open Srt

theorem ln_rep (k t : Nat) : ln (List.replicate k 0) t = 0 := by
  unfold ln
  by_cases h : t < k
  · rw [List.getElem?_replicate, if_pos h]; rfl
  · rw [List.getElem?_replicate, if_neg h]; rfl
theorem ln_one (k i : Nat) (x : Int) (hi : i < k) (t : Nat) : ln ((List.replicate k 0).set i x) t = if t = i then x else 0 := by
  by_cases e : i = t
  · subst e; unfold ln; rw [List.getElem?_set]; simp [hi]
  · rw [if_neg (fun h => e h.symm)]
    have := ln_rep k t
    unfold ln at this ⊢
    rw [List.getElem?_set, if_neg e]; exact this
theorem many_one (ls : List Int) (i : Nat) (hi : i < ls.length) (h1 : 0 < ln ls i) (h : ∀ t, t ≠ i → ln ls t = 0) : many ls = 1 :=
  cnt_one (fun t => decide (0 < ln ls t)) ls.length i hi (by simpa using h1) (fun t _ hp => by
    by_cases e : t = i
    · exact e
    · have := h t e; simp at hp; omega)
/-- Lengths of one symbol. -/
theorem one_tree (k i : Nat) (x : Int) (hi : i < k) (h1 : 1 ≤ x) (h2 : x ≤ 15) : checkS ((List.replicate k 0).set i x) = 0 ∧ oneS ((List.replicate k 0).set i x) = ((i : Int), true) := by
  have hl := ln_one k i x hi
  have hlen : ((List.replicate k (0 : Int)).set i x).length = k := by simp
  have hm : many ((List.replicate k 0).set i x) = 1 := many_one _ i (by rw [hlen]; exact hi) (by rw [hl, if_pos rfl]; omega) (fun t ht => by rw [hl, if_neg ht])
  have hb : ((List.replicate k 0).set i x).any badLen = false := by
    rw [List.any_eq_false]
    intro y hy
    obtain ⟨t, ht, rfl⟩ := List.getElem_of_mem hy
    have := hl t
    rw [ln_get ht] at this
    rw [this]; simp [badLen]; split <;> omega
  have hc : checkS ((List.replicate k 0).set i x) = 0 := by
    unfold checkS
    rw [if_neg (by rw [hb]; simp), if_pos (.inl hm)]
  refine ⟨hc, ?_⟩
  have hn := nonzero_many (ls := (List.replicate k 0).set i x) (fun t => ((complete hc).1 t).1)
  rw [hm] at hn
  obtain ⟨j, hj⟩ := List.length_eq_one_iff.1 hn
  have hmem : i ∈ nonzero ((List.replicate k 0).set i x) := by
    unfold nonzero
    rw [List.mem_filter, List.mem_range, hlen]
    exact ⟨hi, by rw [hl, if_pos rfl]; simp; omega⟩
  rw [hj] at hmem
  obtain rfl : i = j := by simpa using hmem
  unfold oneS; rw [hj]; rfl
/-- Two codes of one bit. -/
theorem two_tree (k i j : Nat) (x : Int) (hi : i < k) (hj : j < k) (hne : i ≠ j) : checkS ((((List.replicate k 0).set i x).set i 1).set j 1) = 0 ∧ hasS ((((List.replicate k 0).set i x).set i 1).set j 1) i = true ∧ costS ((((List.replicate k 0).set i x).set i 1).set j 1) i = 1 := by
  rw [List.set_set]
  have hlen : (((List.replicate k (0 : Int)).set i 1).set j 1).length = k := by simp
  have hl : ∀ t, ln (((List.replicate k 0).set i 1).set j 1) t = if t = j then 1 else if t = i then 1 else 0 := fun t => by
    rw [← ln_one k i 1 hi t]
    unfold ln
    rw [List.getElem?_set]
    by_cases e : j = t
    · subst e; simp [hj]
    · rw [if_neg e, if_neg (fun h => e h.symm)]
  have hb : (((List.replicate k 0).set i 1).set j 1).any badLen = false := by
    rw [List.any_eq_false]
    intro y hy
    obtain ⟨t, ht, rfl⟩ := List.getElem_of_mem hy
    have := hl t
    rw [ln_get ht] at this
    rw [this]; simp [badLen]; split <;> (try split) <;> omega
  have hk : kraft (((List.replicate k 0).set i 1).set j 1) = 32768 := by
    unfold kraft
    rw [hlen]
    have e1 := sumTo_one (n := k) (f := fun _ => (0 : Int)) (g := fun t => wgt (if t = i then 1 else 0)) i hi (fun t _ h => by simp [h]; rfl)
    have e2 := sumTo_one (n := k) (f := fun t => wgt (if t = i then 1 else 0)) (g := fun t => wgt (ln (((List.replicate k 0).set i 1).set j 1) t)) j hj (fun t _ h => by rw [hl t, if_neg h])
    rw [e2, e1, sumTo_nought]
    simp only [hl, if_true, if_neg (fun h : j = i => hne h.symm)]
    decide
  have hc : checkS (((List.replicate k 0).set i 1).set j 1) = 0 := by
    unfold checkS
    rw [if_neg (by rw [hb]; simp), if_pos (.inr hk)]
  have hli : ln (((List.replicate k 0).set i 1).set j 1) i = 1 := by rw [hl i, if_neg hne, if_pos rfl]
  have hh : hasS (((List.replicate k 0).set i 1).set j 1) i = true := by
    unfold hasS; rw [Int.toNat_natCast, hlen, hli]; simp; omega
  refine ⟨hc, hh, ?_⟩
  unfold costS
  rw [hh, Int.toNat_natCast, hli]
  have hno : (oneS (((List.replicate k 0).set i 1).set j 1)).2 = false := by
    cases h : (oneS (((List.replicate k 0).set i 1).set j 1)).2 with
    | false => rfl
    | true =>
      have h1 := (one_many (fun t => ((complete hc).1 t).1)).1 h
      have h2 := krUp_many (((List.replicate k 0).set i 1).set j 1) (((List.replicate k (0 : Int)).set i 1).set j 1).length
      have h3 : mnUp (((List.replicate k 0).set i 1).set j 1) (((List.replicate k (0 : Int)).set i 1).set j 1).length = 1 := h1
      have h4 : kraft (((List.replicate k 0).set i 1).set j 1) = krUp (((List.replicate k 0).set i 1).set j 1) (((List.replicate k (0 : Int)).set i 1).set j 1).length := rfl
      omega
  rw [hno]; rfl

set_option maxRecDepth 8000 in
set_option maxHeartbeats 2000000 in
theorem law_TreeOne (a b x : Int) (D : Option Addr) (m d : Nat) (bs : List Int) (w : World) (ha : 0 ≤ a ∧ a ≤ 255) (hb : 0 ≤ b ∧ b ≤ 255) (hx : 0 ≤ x ∧ x ≤ 255) (HS : ReadsInt w .u8 D m bs) (hbs : ∀ x ∈ bs, 0 ≤ x ∧ x ≤ 255) :
    Calls Try.prog 14 #[.int .u8 a, .int .u8 b, .int .u8 x, .slice D m d] w fun e w' => e = .returned (.bool true) ∧ Below w.heap.size w w' := by
  have HSS := Lib.hid HS; have HX := Lib.hid hbs; have hlb := HS.1
  clear HS hbs
  subst hlb
  by_cases hm : 50 < bs.length
  · go_enter Try.func14, Try.ntmps14
    go_wp2_with (go_at_call 36; refine (answers05 _).mono ?_; rintro e w1 ⟨rfl, hB⟩)
    go_ret
    exact ⟨rfl, hB⟩
  · obtain ⟨k, hk⟩ : ∃ k : Nat, a % 60 + 2 = k := Int.eq_ofNat_of_zero_le (by omega)
    have hk2 : 2 ≤ k ∧ k ≤ 61 := by omega
    obtain ⟨i, hi⟩ : ∃ i : Nat, b % (k : Int) = i := Int.eq_ofNat_of_zero_le (Int.emod_nonneg _ (by omega))
    have hik : i < k := by have := Int.emod_lt_of_pos b (show (0 : Int) < k by omega); omega
    have hk0 : (k : Int) ≠ 0 := by omega
    have hmk := print_make (P := Try.prog) 28 3 .i64 8 Try.underlying28 info_int (by decide) k (by omega)
    go_enter Try.func14, Try.ntmps14
    have hO0 : ((w.alloc (.cells (madeCells #[.int .i64 0] k) 3)).ownsRow w.heap.size 3 1 (.slice (some ⟨w.heap.size, 0, none⟩) k k) k (nums .i64 (List.replicate k 0))) :=
      own_made w w.heap.size 3 .i64 k (Nat.le_refl _) (by omega)
    obtain ⟨hc0, hf0⟩ := own_at hO0 (i : Int) (by omega) (by omega)
    rw [Int.toNat_natCast] at hc0 hf0
    have hO1 := (own_store hO0 (i : Int) (1 + x % 15)).1
    rw [Int.toNat_natCast] at hO1
    have hB1 : Below w.heap.size w ((w.alloc (.cells (madeCells #[.int .i64 0] k) 3)).setCell ⟨w.heap.size, i, none⟩ (.int .i64 (1 + x % 15))) := ((Below.refl _ w).alloc (Nat.le_refl _) _).setCell (p := ⟨w.heap.size, i, none⟩) (Nat.le_refl _) _
    have HO1 := Lib.hid hO1; have HB1 := Lib.hid hB1
    have hg1 : w.heap.size < ((w.alloc (.cells (madeCells #[.int .i64 0] k) 3)).setCell ⟨w.heap.size, i, none⟩ (.int .i64 (1 + x % 15))).heap.size := by simp
    obtain ⟨hcz, hone⟩ := one_tree k i (1 + x % 15) hik (by omega) (by omega)
    have hln : ((List.replicate k (0 : Int)).set i (1 + x % 15)).length = k := by simp
    have HCZ := Lib.hid hcz; have HONE := Lib.hid hone; have HLN := Lib.hid hln
    generalize hls : (List.replicate k (0 : Int)).set i (1 + x % 15) = ls at *
    have HLS := Lib.hid hls
    clear hO0 hO1 hB1 hcz hone hln hls
    have hww : (w.alloc (.cells (madeCells #[.int .i64 0] k) 3)).setCell ⟨w.heap.size, i, none⟩ (.int .i64 (1 + x % 15)) = w.alloc (.cells ((madeCells #[.int .i64 0] k).setIfInBounds i (.int .i64 (1 + x % 15))) 3) := World.setCell_alloc_at _ _ _ _ _ rfl
    have HWW := Lib.hid hww
    clear hww
    go_wp2_with fail
    rw [← HWW.out]
    generalize (w.alloc (.cells (madeCells #[.int .i64 0] k) 3)).setCell ⟨w.heap.size, i, none⟩ (.int .i64 (1 + x % 15)) = w1 at *
    refine (tree_new (some ⟨w.heap.size, 0, none⟩) k k ls w1 (own_reads' HO1.out) (by omega) (Nat.le_refl _) HCZ.out).mono ?_
    rintro e w2 ⟨hB2, B, os, rfl, hB, hT⟩
    have hs2 := hB2.size
    have HO2 := Lib.hid (pw_own_below HO1.out hB2); have HB2 := Lib.hid (below_then HB1.out HB1.out.size hB2); have HT := Lib.hid hT
    generalize hhi : w2.heap.size = hi2 at *
    have HHI := Lib.hid hhi
    clear hc0 hf0 hB2 hT hB hhi
    go_wp2_with fail
    refine (newReader D bs.length d bs w2 (HSS.out.below HB2.out) HX.out (by omega)).mono ?_
    rintro e w3 ⟨g, A', rfl, hg, hA', hR3, hB3⟩
    have hT3 := HT.out.mods (Mods.of_below hB3 []) (by simp)
    have hg' : hi2 ≤ g := by rw [HHI.out] at hg; exact hg
    have HR3 := Lib.hid hR3; have HT3 := Lib.hid hT3; have HO3 := Lib.hid (pw_own_below HO2.out hB3); have HB3 := Lib.hid (below_then HB2.out HB2.out.size hB3)
    clear hR3 hT3 hg hA' hB3
    go_wp2_with fail
    have HON1 := Lib.hid (show (oneS ls).1 = (i : Int) from by rw [HONE.out])
    have HON2 := Lib.hid (show (oneS ls).2 = true from by rw [HONE.out])
    go_loopw [15, 16, 17] (fun j _ _ wr => ∃ t : Nat, t ≤ 10 ∧ j = .int .i64 t ∧ Hid (∃ q, wr = w3.drewN q)) (fun j _ _ _ => 10 - (intOf j).toNat)
    case atStart => exact ⟨0, by omega, rfl, 0, rfl⟩
    case round =>
      obtain ⟨t, ht, rfl, HQ⟩ := hrel
      by_cases hlt : t < 10
      · have hRq : Rdr wr g A' bs 0 false := by obtain ⟨q, hq⟩ := HQ.out; rw [hq]; exact HR3.out.drewN q
        have hTq : IsTree wr B hi2 ls os := by obtain ⟨q, hq⟩ := HQ.out; rw [hq]; exact HT3.out.drewN q
        have HRq := Lib.hid hRq; have HTq := Lib.hid hTq
        clear hRq hTq
        go_wp2_with fail
        refine (read_one B hi2 g ls os A' bs 0 wr HTq.out HON2.out HRq.out).mono ?_
        rintro e w' ⟨rfl, rfl⟩
        rw [HON1.out]
        go_wp2_with fail
        have hleft := left_any g A' bs 0 false wr HRq.out
        rw [show (if false = true then (0 : Int) else 8 * bs.length - (0 : Nat)) = 8 * bs.length from by simp] at hleft
        refine hleft.mono ?_
        rintro e w7 ⟨rfl, hm7⟩
        have HQ7 : Hid (∃ q, w7 = w3.drewN q) := by
          obtain ⟨q, hq⟩ := HQ.out
          obtain ⟨q2, hq2⟩ := hm7
          exact ⟨_, by rw [hq2, hq, World.drewN_drewN]⟩
        clear hm7 hleft
        go_wp2_with fail
        go_roundw
        case rel => exact ⟨t + 1, by omega, by go_num, HQ7.out⟩
        case measure => simp [intOf]; omega
      · have hOq : wr.ownsRow w.heap.size 3 1 (.slice (some ⟨w.heap.size, 0, none⟩) k k) k (nums .i64 ls) := by obtain ⟨q, hq⟩ := HQ.out; rw [hq]; exact pw_own_drewN HO3.out q
        have hBq : Below w.heap.size w wr := by obtain ⟨q, hq⟩ := HQ.out; rw [hq]; exact pw_below_drewN HB3.out q
        obtain ⟨j, hj⟩ : ∃ j : Nat, ((i : Int) + 1) % (k : Int) = j := Int.eq_ofNat_of_zero_le (Int.emod_nonneg _ (by omega))
        have hjk : j < k := by have := Int.emod_lt_of_pos ((i : Int) + 1) (show (0 : Int) < k by omega); omega
        have hij : i ≠ j := by
          intro e
          subst e
          by_cases h1 : i + 1 < k
          · rw [Int.emod_eq_of_lt (by omega) (by omega)] at hj; omega
          · rw [show ((i : Int) + 1) = k from by omega, Int.emod_self] at hj; omega
        obtain ⟨hc0, hf0⟩ := own_at hOq (i : Int) (by omega) (by omega)
        rw [Int.toNat_natCast] at hc0 hf0
        have hO1 := (own_store hOq (i : Int) 1).1
        rw [Int.toNat_natCast] at hO1
        have hB1 := hBq.setCell (p := ⟨w.heap.size, i, none⟩) (Nat.le_refl _) (.int .i64 1)
        obtain ⟨hc1, hf1⟩ := own_at hO1 (j : Int) (by omega) (by omega)
        rw [Int.toNat_natCast] at hc1 hf1
        have hO2 := (own_store hO1 (j : Int) 1).1
        rw [Int.toNat_natCast] at hO2
        have hB2 := hB1.setCell (p := ⟨w.heap.size, j, none⟩) (Nat.le_refl _) (.int .i64 1)
        obtain ⟨hcz, hh, hcost⟩ := two_tree k i j (1 + x % 15) hik hjk hij
        rw [HLS.out] at hcz hh hcost
        have HO2' := Lib.hid hO2; have HB2' := Lib.hid hB2; have HCZ2 := Lib.hid hcz; have HH := Lib.hid hh; have HCO := Lib.hid hcost
        have HO1' := Lib.hid hO1
        generalize hls2 : (ls.set i 1).set j 1 = ls2 at *
        have HLS2 := Lib.hid hls2
        clear hOq hBq hO1 hB1 hO2 hB2 hcz hh hcost hij hls2
        have hsz : ((wr.setCell ⟨w.heap.size, i, none⟩ (.int .i64 1)).setCell ⟨w.heap.size, j, none⟩ (.int .i64 1)).heap.size = wr.heap.size := by simp
        have HLN2 := Lib.hid (show ls2.length = k from by rw [← HLS2.out]; simp [HLN.out])
        go_wp2_with fail
        generalize (wr.setCell ⟨w.heap.size, i, none⟩ (.int .i64 1)).setCell ⟨w.heap.size, j, none⟩ (.int .i64 1) = w4 at *
        refine (tree_new (some ⟨w.heap.size, 0, none⟩) k k ls2 w4 (own_reads' HO2'.out) (by omega) (Nat.le_refl _) HCZ2.out).mono ?_
        rintro e w5 ⟨hB5, B2, os2, rfl, _, hT5⟩
        have HB5 := Lib.hid (below_then HB2'.out HB2'.out.size hB5); have HT5 := Lib.hid hT5
        clear hB5 hT5 hc0 hf0 hc1 hf1 hsz
        go_wp2_with fail
        refine (cost_any B2 w5.heap.size ls2 os2 i w5 HT5.out).mono ?_
        rintro e w' ⟨rfl, rfl⟩
        rw [HH.out, HCO.out]
        go_wp2_with fail
        refine (answers05 _).mono ?_
        rintro e w6 ⟨rfl, hB6⟩
        have HB6 := Lib.hid (below_then HB5.out HB5.out.size hB6)
        clear hB6
        go_wp2_with fail
        go_ret
        exact ⟨rfl, HB6.out⟩
end Go.Proofs.Ytoanhnebalapeaa
