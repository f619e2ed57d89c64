/- The law AlphaFilters. -/
import Derived.Test.YtodpognmkbjlmaaGreatDoorAlpE
import Derived.Test.YtodpognmkbjlmaaGreatDoorAlpT
namespace Go.Proofs.YtodpognmkbjlmaaGreatDoor
open Go.RowKit
open Go.Proofs.YtodpognmkbjlmaaGreatDoorW.PrintWords

set_option maxHeartbeats 2000000 in
theorem filters_large (W H f : Int) (A : Option Addr) (n c : Nat) (w : World) (hn : 3000 < n) :
    Calls Tryz.prog 3 #[.agg #[.int .i64 W, .int .i64 H, .slice A n c], .int .i64 f] w fun e w' => e = .returned (.bool true) ∧ Below w.heap.size w w' := by
  have HB0 := Lib.hid ((Below.refl _ w).alloc (Nat.le_refl _) (.cells #[.int .i64 W, .int .i64 H, .slice A n c] 24))
  go_enter Tryz.func3, Tryz.ntmps3
  go_wp2_with fail
  refine (answers26 _).mono ?_
  rintro e w1 ⟨rfl, hB⟩
  have HB1 := Lib.hid (below_then HB0.out HB0.out.size hB)
  clear hB
  go_wp2_with fail
  go_ret
  exact ⟨rfl, HB1.out⟩
set_option maxRecDepth 100000 in
set_option maxHeartbeats 4000000 in
theorem filters_bad (W H f : Int) (A : Option Addr) (n c : Nat) (bs : List Int) (w : World) (HR : ReadsInt w .u8 A n bs) (hn : n ≤ 3000) (hb : goodI W H n = false ∨ (goodI W H n = true ∧ f < 0) ∨ (goodI W H n = true ∧ 3 < f)) :
    Calls Tryz.prog 3 #[.agg #[.int .i64 W, .int .i64 H, .slice A n c], .int .i64 f] w fun e w' => e = .returned (.bool true) ∧ Below w.heap.size w w' := by
  have hb0 := (Below.refl _ w).alloc (Nat.le_refl _) (.cells #[.int .i64 W, .int .i64 H, .slice A n c] 24)
  have HB0 := Lib.hid hb0
  have HN0 := Lib.hid (alloc_new w #[.int .i64 W, .int .i64 H, .slice A n c] 24)
  have HR0 := Lib.hid (HR.below hb0)
  have hd0 : decide (3000 < (n : Int)) = false := decide_eq_false (by omega)
  have hnl := HR.1
  have HLN := Lib.hid hnl
  clear hb0 HR
  rcases hb with hg | ⟨hg, h0⟩ | ⟨hg, h0⟩
  · have HBAD := Lib.hid (show (goodI W H n && (decide (0 ≤ f) && decide (f ≤ 3))) = false from by rw [hg]; rfl)
    have HG := Lib.hid hg
    clear hg
    go_enter Tryz.func3, Tryz.ntmps3
    obtain ⟨x0, x1, x2, _, _, _⟩ := box3 HN0.out
    have hl := own_lit (w.alloc (.cells #[.int .i64 W, .int .i64 H, .slice A n c] 24)) (w.heap.size + 1) 5 .u8 [] (by simp) (by decide)
    rw [show (w.alloc (.cells #[.int .i64 W, .int .i64 H, .slice A n c] 24)).heap.size = w.heap.size + 1 from by simp] at hl
    have HLIT := Lib.hid hl
    have HRL := Lib.hid (HR0.out.below ((Below.refl _ (w.alloc (.cells #[.int .i64 W, .int .i64 H, .slice A n c] 24))).alloc (Nat.le_refl _) (.cells #[] 5)))
    have HBL := Lib.hid ((Below.refl (w.heap.size + 1) (w.alloc (.cells #[.int .i64 W, .int .i64 H, .slice A n c] 24))).alloc (by simp) (.cells #[] 5))
    clear hl
    go_wp2_with (at_builtin; refine print_append_row (w0 := (w.alloc (.cells #[.int .i64 W, .int .i64 H, .slice A n c] 24))) (w.heap.size + 1) rfl _ _ 22 5 .u8 1 rfl Tryz.underlying22 info_u8 (by decide) _ [] bs A n c rfl rfl (by exact HLIT.out) (by exact HRL.out) (by exact HBL.out) (by simp) (by simp; omega) ?_)
    intro v1 w1 hown hB1 _ _
    have hB1 : Below (w.alloc (.cells #[.int .i64 W, .int .i64 H, .slice A n c] 24)).heap.size (w.alloc (.cells #[.int .i64 W, .int .i64 H, .slice A n c] 24)) w1 := by rw [show (w.alloc (.cells #[.int .i64 W, .int .i64 H, .slice A n c] 24)).heap.size = w.heap.size + 1 from by simp]; exact hB1
    have HN1 := Lib.hid ((Mods.of_below hB1 []).blk HN0.out (by simp))
    have HB1 := Lib.hid (below_then HB0.out HB0.out.size hB1)
    have hz1 := HB1.out.size
    obtain ⟨A1, c1, rfl, _⟩ := own_reads hown
    clear hown hB1 x0 x1 x2
    obtain ⟨x0, x1, x2, _, _, _⟩ := box3 HN1.out
    go_wp2_with fail
    refine (forthA_bad W H f A n c w1 HBAD.out).mono ?_
    rintro e w2 ⟨rfl, hB⟩
    have HN2 := Lib.hid ((Mods.of_below hB []).blk HN1.out (by simp))
    have HB2 := Lib.hid (below_then HB1.out hz1 hB)
    have hz2 := HB2.out.size
    clear hB x0 x1 x2
    obtain ⟨x0, x1, x2, _, _, _⟩ := box3 HN2.out
    go_wp2_with fail
    refine (backA_bad W H f A n c w2 HBAD.out).mono ?_
    rintro e w3 ⟨rfl, hB⟩
    have HN3 := Lib.hid ((Mods.of_below hB []).blk HN2.out (by simp))
    have HB3 := Lib.hid (below_then HB2.out hz2 hB)
    have hz3 := HB3.out.size
    clear hB x0 x1 x2
    obtain ⟨x0, x1, x2, _, _, _⟩ := box3 HN3.out
    go_wp2_with fail
    refine (refPlane_any W H A n c w3).mono ?_
    rw [HG.out]
    rintro e w4 ⟨rfl, hB⟩
    have HB4 := Lib.hid (below_then HB3.out hz3 hB)
    have hz4 := HB4.out.size
    clear hB
    go_wp2_with fail
    refine (answers26 w4).mono ?_
    rintro e w5 ⟨rfl, hB⟩
    have HB5 := Lib.hid (below_then HB4.out hz4 hB)
    clear hB
    go_wp2_with fail
    go_ret
    exact ⟨rfl, HB5.out⟩
  · have HBAD := Lib.hid (show (goodI W H n && (decide (0 ≤ f) && decide (f ≤ 3))) = false from by rw [hg, decide_eq_false (show ¬ (0 ≤ f) by omega)]; rfl)
    have HG := Lib.hid hg
    have d1 : decide (f < 0) = true := decide_eq_true h0
    clear hg h0
    go_enter Tryz.func3, Tryz.ntmps3
    obtain ⟨x0, x1, x2, _, _, _⟩ := box3 HN0.out
    have hl := own_lit (w.alloc (.cells #[.int .i64 W, .int .i64 H, .slice A n c] 24)) (w.heap.size + 1) 5 .u8 [] (by simp) (by decide)
    rw [show (w.alloc (.cells #[.int .i64 W, .int .i64 H, .slice A n c] 24)).heap.size = w.heap.size + 1 from by simp] at hl
    have HLIT := Lib.hid hl
    have HRL := Lib.hid (HR0.out.below ((Below.refl _ (w.alloc (.cells #[.int .i64 W, .int .i64 H, .slice A n c] 24))).alloc (Nat.le_refl _) (.cells #[] 5)))
    have HBL := Lib.hid ((Below.refl (w.heap.size + 1) (w.alloc (.cells #[.int .i64 W, .int .i64 H, .slice A n c] 24))).alloc (by simp) (.cells #[] 5))
    clear hl
    go_wp2_with (at_builtin; refine print_append_row (w0 := (w.alloc (.cells #[.int .i64 W, .int .i64 H, .slice A n c] 24))) (w.heap.size + 1) rfl _ _ 22 5 .u8 1 rfl Tryz.underlying22 info_u8 (by decide) _ [] bs A n c rfl rfl (by exact HLIT.out) (by exact HRL.out) (by exact HBL.out) (by simp) (by simp; omega) ?_)
    intro v1 w1 hown hB1 _ _
    have hB1 : Below (w.alloc (.cells #[.int .i64 W, .int .i64 H, .slice A n c] 24)).heap.size (w.alloc (.cells #[.int .i64 W, .int .i64 H, .slice A n c] 24)) w1 := by rw [show (w.alloc (.cells #[.int .i64 W, .int .i64 H, .slice A n c] 24)).heap.size = w.heap.size + 1 from by simp]; exact hB1
    have HN1 := Lib.hid ((Mods.of_below hB1 []).blk HN0.out (by simp))
    have HB1 := Lib.hid (below_then HB0.out HB0.out.size hB1)
    have hz1 := HB1.out.size
    obtain ⟨A1, c1, rfl, _⟩ := own_reads hown
    clear hown hB1 x0 x1 x2
    obtain ⟨x0, x1, x2, _, _, _⟩ := box3 HN1.out
    go_wp2_with fail
    refine (forthA_bad W H f A n c w1 HBAD.out).mono ?_
    rintro e w2 ⟨rfl, hB⟩
    have HN2 := Lib.hid ((Mods.of_below hB []).blk HN1.out (by simp))
    have HB2 := Lib.hid (below_then HB1.out hz1 hB)
    have hz2 := HB2.out.size
    clear hB x0 x1 x2
    obtain ⟨x0, x1, x2, _, _, _⟩ := box3 HN2.out
    go_wp2_with fail
    refine (backA_bad W H f A n c w2 HBAD.out).mono ?_
    rintro e w3 ⟨rfl, hB⟩
    have HN3 := Lib.hid ((Mods.of_below hB []).blk HN2.out (by simp))
    have HB3 := Lib.hid (below_then HB2.out hz2 hB)
    have hz3 := HB3.out.size
    clear hB x0 x1 x2
    obtain ⟨x0, x1, x2, _, _, _⟩ := box3 HN3.out
    go_wp2_with fail
    refine (refPlane_any W H A n c w3).mono ?_
    rw [HG.out]
    rintro e w4 ⟨rfl, hB⟩
    have HB4 := Lib.hid (below_then HB3.out hz3 hB)
    have hz4 := HB4.out.size
    clear hB
    go_wp2_with fail
    refine (answers26 w4).mono ?_
    rintro e w5 ⟨rfl, hB⟩
    have HB5 := Lib.hid (below_then HB4.out hz4 hB)
    clear hB
    go_wp2_with fail
    go_ret
    exact ⟨rfl, HB5.out⟩
  · have HBAD := Lib.hid (show (goodI W H n && (decide (0 ≤ f) && decide (f ≤ 3))) = false from by rw [hg, decide_eq_false (show ¬ (f ≤ 3) by omega), Bool.and_false, Bool.and_false])
    have HG := Lib.hid hg
    have d1 : decide (f < 0) = false := decide_eq_false (by omega)
    have d2 : decide (3 < f) = true := decide_eq_true h0
    clear hg h0
    go_enter Tryz.func3, Tryz.ntmps3
    obtain ⟨x0, x1, x2, _, _, _⟩ := box3 HN0.out
    have hl := own_lit (w.alloc (.cells #[.int .i64 W, .int .i64 H, .slice A n c] 24)) (w.heap.size + 1) 5 .u8 [] (by simp) (by decide)
    rw [show (w.alloc (.cells #[.int .i64 W, .int .i64 H, .slice A n c] 24)).heap.size = w.heap.size + 1 from by simp] at hl
    have HLIT := Lib.hid hl
    have HRL := Lib.hid (HR0.out.below ((Below.refl _ (w.alloc (.cells #[.int .i64 W, .int .i64 H, .slice A n c] 24))).alloc (Nat.le_refl _) (.cells #[] 5)))
    have HBL := Lib.hid ((Below.refl (w.heap.size + 1) (w.alloc (.cells #[.int .i64 W, .int .i64 H, .slice A n c] 24))).alloc (by simp) (.cells #[] 5))
    clear hl
    go_wp2_with (at_builtin; refine print_append_row (w0 := (w.alloc (.cells #[.int .i64 W, .int .i64 H, .slice A n c] 24))) (w.heap.size + 1) rfl _ _ 22 5 .u8 1 rfl Tryz.underlying22 info_u8 (by decide) _ [] bs A n c rfl rfl (by exact HLIT.out) (by exact HRL.out) (by exact HBL.out) (by simp) (by simp; omega) ?_)
    intro v1 w1 hown hB1 _ _
    have hB1 : Below (w.alloc (.cells #[.int .i64 W, .int .i64 H, .slice A n c] 24)).heap.size (w.alloc (.cells #[.int .i64 W, .int .i64 H, .slice A n c] 24)) w1 := by rw [show (w.alloc (.cells #[.int .i64 W, .int .i64 H, .slice A n c] 24)).heap.size = w.heap.size + 1 from by simp]; exact hB1
    have HN1 := Lib.hid ((Mods.of_below hB1 []).blk HN0.out (by simp))
    have HB1 := Lib.hid (below_then HB0.out HB0.out.size hB1)
    have hz1 := HB1.out.size
    obtain ⟨A1, c1, rfl, _⟩ := own_reads hown
    clear hown hB1 x0 x1 x2
    obtain ⟨x0, x1, x2, _, _, _⟩ := box3 HN1.out
    go_wp2_with fail
    refine (forthA_bad W H f A n c w1 HBAD.out).mono ?_
    rintro e w2 ⟨rfl, hB⟩
    have HN2 := Lib.hid ((Mods.of_below hB []).blk HN1.out (by simp))
    have HB2 := Lib.hid (below_then HB1.out hz1 hB)
    have hz2 := HB2.out.size
    clear hB x0 x1 x2
    obtain ⟨x0, x1, x2, _, _, _⟩ := box3 HN2.out
    go_wp2_with fail
    refine (backA_bad W H f A n c w2 HBAD.out).mono ?_
    rintro e w3 ⟨rfl, hB⟩
    have HN3 := Lib.hid ((Mods.of_below hB []).blk HN2.out (by simp))
    have HB3 := Lib.hid (below_then HB2.out hz2 hB)
    have hz3 := HB3.out.size
    clear hB x0 x1 x2
    obtain ⟨x0, x1, x2, _, _, _⟩ := box3 HN3.out
    go_wp2_with fail
    refine (refPlane_any W H A n c w3).mono ?_
    rw [HG.out]
    rintro e w4 ⟨rfl, hB⟩
    have HB4 := Lib.hid (below_then HB3.out hz3 hB)
    have hz4 := HB4.out.size
    clear hB
    go_wp2_with fail
    refine (answers26 w4).mono ?_
    rintro e w5 ⟨rfl, hB⟩
    have HB5 := Lib.hid (below_then HB4.out hz4 hB)
    clear hB
    go_wp2_with fail
    go_ret
    exact ⟨rfl, HB5.out⟩
set_option maxRecDepth 100000 in
set_option maxHeartbeats 8000000 in
theorem filters_good (W H f : Nat) (ad : Addr) (n c : Nat) (bs : List Int) (w : World) (HR : ReadsInt w .u8 (some ad) n bs) (hbs : ∀ v ∈ bs, 0 ≤ v ∧ v ≤ 255) (hn0 : 0 < n) (hn : n ≤ 3000) (hW : 1 ≤ W ∧ W ≤ 16384) (hg : goodI W H n = true) (hWH : W * H = n) (hf : f ≤ 3) :
    Calls Tryz.prog 3 #[.agg #[.int .i64 W, .int .i64 H, .slice (some ad) n c], .int .i64 f] w fun e w' => e = .returned (.bool true) ∧ Below w.heap.size w w' := by
  have hb0 := (Below.refl _ w).alloc (Nat.le_refl _) (.cells #[.int .i64 (W : Int), .int .i64 (H : Int), .slice (some ad) n c] 24)
  have HB0 := Lib.hid hb0
  have HN0 := Lib.hid (alloc_new w #[.int .i64 (W : Int), .int .i64 (H : Int), .slice (some ad) n c] 24)
  have HR0 := Lib.hid (HR.below hb0)
  have hd0 : decide (3000 < (n : Int)) = false := decide_eq_false (by omega)
  have HLN := Lib.hid HR.1; have HBS := Lib.hid hbs; have HG := Lib.hid hg; have HWH := Lib.hid hWH
  have d1 : decide ((f : Int) < 0) = false := decide_eq_false (by omega)
  have d2 : decide (3 < (f : Int)) = false := decide_eq_false (by omega)
  have HFO := Lib.hid (Alp.foL_lt f W bs n); have HBA := Lib.hid (Alp.baL_lt f W bs n)
  have HC := Lib.hid (Alp.back_forth f W bs hW.1 HR.1 hbs); have HD := Lib.hid (Alp.forth_back f W bs hW.1 HR.1 hbs)
  clear hb0 HR hbs hg hWH
  go_enter Tryz.func3, Tryz.ntmps3
  obtain ⟨x0, x1, x2, _, _, _⟩ := box3 HN0.out
  have hl := own_lit (w.alloc (.cells #[.int .i64 (W : Int), .int .i64 (H : Int), .slice (some ad) n c] 24)) (w.heap.size + 1) 5 .u8 [] (by simp) (by decide)
  rw [show (w.alloc (.cells #[.int .i64 (W : Int), .int .i64 (H : Int), .slice (some ad) n c] 24)).heap.size = w.heap.size + 1 from by simp] at hl
  have HLIT := Lib.hid hl
  have HRL := Lib.hid (HR0.out.below ((Below.refl _ (w.alloc (.cells #[.int .i64 (W : Int), .int .i64 (H : Int), .slice (some ad) n c] 24))).alloc (Nat.le_refl _) (.cells #[] 5)))
  have HBL := Lib.hid ((Below.refl (w.heap.size + 1) (w.alloc (.cells #[.int .i64 (W : Int), .int .i64 (H : Int), .slice (some ad) n c] 24))).alloc (by simp) (.cells #[] 5))
  clear hl
  go_wp2_with (at_builtin; refine print_append_row (w0 := (w.alloc (.cells #[.int .i64 (W : Int), .int .i64 (H : Int), .slice (some ad) n c] 24))) (w.heap.size + 1) rfl _ _ 22 5 .u8 1 rfl Tryz.underlying22 info_u8 (by decide) _ [] bs (some ad) n c rfl rfl (by exact HLIT.out) (by exact HRL.out) (by exact HBL.out) (by simp) (by simp; omega) ?_)
  intro v1 w1 hown hB _ _
  have hB : Below (w.alloc (.cells #[.int .i64 (W : Int), .int .i64 (H : Int), .slice (some ad) n c] 24)).heap.size (w.alloc (.cells #[.int .i64 (W : Int), .int .i64 (H : Int), .slice (some ad) n c] 24)) w1 := by rw [show (w.alloc (.cells #[.int .i64 (W : Int), .int .i64 (H : Int), .slice (some ad) n c] 24)).heap.size = w.heap.size + 1 from by simp]; exact hB
  rw [HLN.out] at hown
  have HN1 := Lib.hid ((Mods.of_below hB []).blk HN0.out (by simp))
  have HR1 := Lib.hid (HR0.out.below hB)
  have HB1 := Lib.hid (below_then HB0.out HB0.out.size hB)
  have hz1 := HB1.out.size
  obtain ⟨A1, c1, rfl, hI⟩ := own_reads hown
  have HI1 := Lib.hid (show ReadsInt w1 .u8 A1 n bs from hI)
  clear hown hB hI x0 x1 x2
  obtain ⟨x0, x1, x2, _, _, _⟩ := box3 HN1.out
  go_wp2_with fail
  refine (forthA_good W H f ad n c bs w1 HR1.out HBS.out hn0 (by omega) hW HG.out hf).mono ?_
  rintro e w2 ⟨hB, AA, ca, rfl, hr⟩
  have HN2 := Lib.hid ((Mods.of_below hB []).blk HN1.out (by simp))
  have HR2 := Lib.hid (HR1.out.below hB)
  have HI2 := Lib.hid (HI1.out.below hB)
  have HB2 := Lib.hid (below_then HB1.out hz1 hB)
  have hz2 := HB2.out.size
  obtain ⟨aa, rfl, _⟩ := hr.2.2 hn0
  have HA2 := Lib.hid hr
  clear hB hr x0 x1 x2
  obtain ⟨x0, x1, x2, _, _, _⟩ := box3 HN2.out
  go_wp2_with fail
  refine (backA_good W H f ad n c bs w2 HR2.out HBS.out hn0 (by omega) hW HG.out hf).mono ?_
  rintro e w3 ⟨hB, AB, cb, rfl, hr⟩
  have HN3 := Lib.hid ((Mods.of_below hB []).blk HN2.out (by simp))
  have HR3 := Lib.hid (HR2.out.below hB)
  have HI3 := Lib.hid (HI2.out.below hB)
  have HA3 := Lib.hid (HA2.out.below hB)
  have HB3 := Lib.hid (below_then HB2.out hz2 hB)
  have hz3 := HB3.out.size
  obtain ⟨ab, rfl, _⟩ := hr.2.2 hn0
  have HE3 := Lib.hid hr
  clear hB hr x0 x1 x2
  obtain ⟨x0, x1, x2, _, _, _⟩ := box3 HN3.out
  go_wp2_with fail
  refine (refPlane_any W H (some ad) n c w3).mono ?_
  rw [HG.out]
  rintro e w4 ⟨rfl, hB⟩
  have HN4 := Lib.hid ((Mods.of_below hB []).blk HN3.out (by simp))
  have HR4 := Lib.hid (HR3.out.below hB)
  have HI4 := Lib.hid (HI3.out.below hB)
  have HA4 := Lib.hid (HA3.out.below hB)
  have HE4 := Lib.hid (HE3.out.below hB)
  have HB4 := Lib.hid (below_then HB3.out hz3 hB)
  have hz4 := HB4.out.size
  clear hB x0 x1 x2
  obtain ⟨x0, x1, x2, _, _, _⟩ := box3 HN4.out
  go_wp2_with fail
  refine (backA_good W H f aa n ca (Alp.foL f W bs n) w4 HA4.out HFO.out hn0 (by omega) hW HG.out hf).mono ?_
  rintro e w5 ⟨hB, AC, cc, rfl, hr⟩
  have HN5 := Lib.hid ((Mods.of_below hB []).blk HN4.out (by simp))
  have HR5 := Lib.hid (HR4.out.below hB)
  have HI5 := Lib.hid (HI4.out.below hB)
  have HA5 := Lib.hid (HA4.out.below hB)
  have HE5 := Lib.hid (HE4.out.below hB)
  have HB5 := Lib.hid (below_then HB4.out hz4 hB)
  have hz5 := HB5.out.size
  rw [HC.out] at hr
  have HU5 := Lib.hid hr
  clear hB hr x0 x1 x2
  obtain ⟨x0, x1, x2, _, _, _⟩ := box3 HN5.out
  go_wp2_with fail
  refine (forthA_good W H f ab n cb (Alp.baL f W bs n) w5 HE5.out HBA.out hn0 (by omega) hW HG.out hf).mono ?_
  rintro e w6 ⟨hB, AD, cd, rfl, hr⟩
  have HN6 := Lib.hid ((Mods.of_below hB []).blk HN5.out (by simp))
  have HR6 := Lib.hid (HR5.out.below hB)
  have HI6 := Lib.hid (HI5.out.below hB)
  have HA6 := Lib.hid (HA5.out.below hB)
  have HE6 := Lib.hid (HE5.out.below hB)
  have HU6 := Lib.hid (HU5.out.below hB)
  have HB6 := Lib.hid (below_then HB5.out hz5 hB)
  have hz6 := HB6.out.size
  rw [HD.out] at hr
  have HV6 := Lib.hid hr
  clear hB hr x0 x1 x2
  obtain ⟨x0, x1, x2, _, _, _⟩ := box3 HN6.out
  go_wp2_with fail
  refine (answers26 w6).mono ?_
  rintro e w7 ⟨rfl, hB⟩
  have HN7 := Lib.hid ((Mods.of_below hB []).blk HN6.out (by simp))
  have HR7 := Lib.hid (HR6.out.below hB)
  have HI7 := Lib.hid (HI6.out.below hB)
  have HA7 := Lib.hid (HA6.out.below hB)
  have HE7 := Lib.hid (HE6.out.below hB)
  have HU7 := Lib.hid (HU6.out.below hB)
  have HV7 := Lib.hid (HV6.out.below hB)
  have HB7 := Lib.hid (below_then HB6.out hz6 hB)
  have hz7 := HB7.out.size
  clear hB x0 x1 x2
  obtain ⟨x0, x1, x2, _, _, _⟩ := box3 HN7.out
  go_wp2_with fail
  refine (refFilter_forth W H f ad n c bs w7 HR7.out HBS.out hn0 (by omega) hW HWH.out hf).mono ?_
  rintro e w8 ⟨hB, AF, cf, rfl, hr⟩
  have HN8 := Lib.hid ((Mods.of_below hB []).blk HN7.out (by simp))
  have HR8 := Lib.hid (HR7.out.below hB)
  have HI8 := Lib.hid (HI7.out.below hB)
  have HA8 := Lib.hid (HA7.out.below hB)
  have HE8 := Lib.hid (HE7.out.below hB)
  have HU8 := Lib.hid (HU7.out.below hB)
  have HV8 := Lib.hid (HV7.out.below hB)
  have HB8 := Lib.hid (below_then HB7.out hz7 hB)
  have hz8 := HB8.out.size
  have HX8 := Lib.hid hr
  clear hB hr x0 x1 x2
  obtain ⟨x0, x1, x2, _, _, _⟩ := box3 HN8.out
  go_wp2_with fail
  refine (bytes_same (some aa) AF n ca cf (Alp.foL f W bs n) w8 HA8.out HX8.out).mono ?_
  rintro e w9 ⟨rfl, hB⟩
  have HN9 := Lib.hid ((Mods.of_below hB []).blk HN8.out (by simp))
  have HR9 := Lib.hid (HR8.out.below hB)
  have HI9 := Lib.hid (HI8.out.below hB)
  have HA9 := Lib.hid (HA8.out.below hB)
  have HE9 := Lib.hid (HE8.out.below hB)
  have HU9 := Lib.hid (HU8.out.below hB)
  have HV9 := Lib.hid (HV8.out.below hB)
  have HB9 := Lib.hid (below_then HB8.out hz8 hB)
  have hz9 := HB9.out.size
  clear hB x0 x1 x2
  obtain ⟨x0, x1, x2, _, _, _⟩ := box3 HN9.out
  go_wp2_with fail
  refine (refFilter_back W H f ad n c bs w9 HR9.out HBS.out hn0 (by omega) hW HWH.out hf).mono ?_
  rintro e w10 ⟨hB, AG, cg, rfl, hr⟩
  have HN10 := Lib.hid ((Mods.of_below hB []).blk HN9.out (by simp))
  have HR10 := Lib.hid (HR9.out.below hB)
  have HI10 := Lib.hid (HI9.out.below hB)
  have HA10 := Lib.hid (HA9.out.below hB)
  have HE10 := Lib.hid (HE9.out.below hB)
  have HU10 := Lib.hid (HU9.out.below hB)
  have HV10 := Lib.hid (HV9.out.below hB)
  have HB10 := Lib.hid (below_then HB9.out hz9 hB)
  have hz10 := HB10.out.size
  have HX10 := Lib.hid hr
  clear hB hr x0 x1 x2
  obtain ⟨x0, x1, x2, _, _, _⟩ := box3 HN10.out
  go_wp2_with fail
  refine (bytes_same (some ab) AG n cb cg (Alp.baL f W bs n) w10 HE10.out HX10.out).mono ?_
  rintro e w11 ⟨rfl, hB⟩
  have HN11 := Lib.hid ((Mods.of_below hB []).blk HN10.out (by simp))
  have HR11 := Lib.hid (HR10.out.below hB)
  have HI11 := Lib.hid (HI10.out.below hB)
  have HA11 := Lib.hid (HA10.out.below hB)
  have HE11 := Lib.hid (HE10.out.below hB)
  have HU11 := Lib.hid (HU10.out.below hB)
  have HV11 := Lib.hid (HV10.out.below hB)
  have HB11 := Lib.hid (below_then HB10.out hz10 hB)
  have hz11 := HB11.out.size
  clear hB x0 x1 x2
  obtain ⟨x0, x1, x2, _, _, _⟩ := box3 HN11.out
  go_wp2_with fail
  refine (bytes_same AC (some ad) n cc c bs w11 HU11.out HR11.out).mono ?_
  rintro e w12 ⟨rfl, hB⟩
  have HN12 := Lib.hid ((Mods.of_below hB []).blk HN11.out (by simp))
  have HR12 := Lib.hid (HR11.out.below hB)
  have HI12 := Lib.hid (HI11.out.below hB)
  have HA12 := Lib.hid (HA11.out.below hB)
  have HE12 := Lib.hid (HE11.out.below hB)
  have HU12 := Lib.hid (HU11.out.below hB)
  have HV12 := Lib.hid (HV11.out.below hB)
  have HB12 := Lib.hid (below_then HB11.out hz11 hB)
  have hz12 := HB12.out.size
  clear hB x0 x1 x2
  obtain ⟨x0, x1, x2, _, _, _⟩ := box3 HN12.out
  go_wp2_with fail
  refine (bytes_same AD (some ad) n cd c bs w12 HV12.out HR12.out).mono ?_
  rintro e w13 ⟨rfl, hB⟩
  have HN13 := Lib.hid ((Mods.of_below hB []).blk HN12.out (by simp))
  have HR13 := Lib.hid (HR12.out.below hB)
  have HI13 := Lib.hid (HI12.out.below hB)
  have HA13 := Lib.hid (HA12.out.below hB)
  have HE13 := Lib.hid (HE12.out.below hB)
  have HU13 := Lib.hid (HU12.out.below hB)
  have HV13 := Lib.hid (HV12.out.below hB)
  have HB13 := Lib.hid (below_then HB12.out hz12 hB)
  have hz13 := HB13.out.size
  clear hB x0 x1 x2
  obtain ⟨x0, x1, x2, _, _, _⟩ := box3 HN13.out
  go_wp2_with fail
  refine (bytes_same A1 (some ad) n c1 c bs w13 HI13.out HR13.out).mono ?_
  rintro e w14 ⟨rfl, hB⟩
  have HN14 := Lib.hid ((Mods.of_below hB []).blk HN13.out (by simp))
  have HB14 := Lib.hid (below_then HB13.out hz13 hB)
  have hz14 := HB14.out.size
  clear hB
  go_wp2_with fail
  go_ret
  exact ⟨rfl, HB14.out⟩
theorem law_AlphaFilters (W H f : Int) (A : Option Addr) (n c : Nat) (bs : List Int) (w : World) (HR : ReadsInt w .u8 A n bs) (hbs : ∀ v ∈ bs, 0 ≤ v ∧ v ≤ 255) :
    Calls Tryz.prog 3 #[.agg #[.int .i64 W, .int .i64 H, .slice A n c], .int .i64 f] w fun e w' => e = .returned (.bool true) ∧ Below w.heap.size w w' := by
  by_cases hn : 3000 < n
  · exact filters_large W H f A n c w hn
  · cases hg : goodI W H n with
    | false => exact filters_bad W H f A n c bs w HR (by omega) (.inl hg)
    | true =>
      by_cases h0 : f < 0
      · exact filters_bad W H f A n c bs w HR (by omega) (.inr (.inl ⟨hg, h0⟩))
      · by_cases h3 : 3 < f
        · exact filters_bad W H f A n c bs w HR (by omega) (.inr (.inr ⟨hg, h3⟩))
        · have hgd := of_decide_eq_true (show decide _ = true from hg)
          obtain ⟨W', rfl⟩ := Int.eq_ofNat_of_zero_le (show 0 ≤ W by omega)
          obtain ⟨H', rfl⟩ := Int.eq_ofNat_of_zero_le (show 0 ≤ H by omega)
          obtain ⟨f', rfl⟩ := Int.eq_ofNat_of_zero_le (show 0 ≤ f by omega)
          have hWH : W' * H' = n := by have := hgd.2.2.2.2; exact_mod_cast this.symm
          have hn0 : 0 < n := by rw [← hWH]; exact Nat.mul_pos (by omega) (by omega)
          obtain ⟨ad, rfl, _⟩ := HR.2.2 hn0
          exact filters_good W' H' f' ad n c bs w HR hbs hn0 (by omega) ⟨by omega, by omega⟩ hg hWH (by omega)
end Go.Proofs.YtodpognmkbjlmaaGreatDoor
