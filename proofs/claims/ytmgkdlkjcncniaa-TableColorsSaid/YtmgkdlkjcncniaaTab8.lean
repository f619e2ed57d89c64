/- What the laws of layer 16 ask of three pixels. -/
import Derived.Test.YtmgkdlkjcncniaaTab7
namespace Go.Proofs.Ytmgkdlkjcncniaa
open Go.RowKit
open Go.Proofs.YtmgkdlkjcncniaaW.PrintWords

theorem cols3 : Tb.cols [9, 7, 9] = [7, 9] := by decide
theorem found3 : ∀ t, t < 3 → fi [7, 9] (([9, 7, 9] : List Int).getD t 0) ≠ none := by decide
theorem val3 : Tb.val 3 1 3 (pnum [7, 9] [9, 7, 9]) 3 0 = 4278191360 := by decide

set_option maxRecDepth 100000 in
set_option maxHeartbeats 4000000 in
theorem answers16 (w : World) : Calls Try.prog 8 #[] w fun e w' => e = .returned (.bool true) ∧ Below w.heap.size w w' := by
  have hg : goodI 3 1 3 = true := by decide
  have HG := Lib.hid hg
  have hb1 := ((Below.refl _ w).alloc (Nat.le_refl _) (.cells #[.int .u32 9, .int .u32 7, .int .u32 9] 31)).alloc (by simp) (.cells #[.int .i64 3, .int .i64 1, .slice (some ⟨w.heap.size, 0, none⟩) 3 3] 24)
  have hr1 : ReadsInt ((w.alloc (.cells #[.int .u32 9, .int .u32 7, .int .u32 9] 31)).alloc (.cells #[.int .i64 3, .int .i64 1, .slice (some ⟨w.heap.size, 0, none⟩) 3 3] 24)) .u32 (some ⟨w.heap.size, 0, none⟩) 3 [9, 7, 9] :=
    (reads_lit w 31 .u32 [9, 7, 9] (by decide)).below ((Below.refl _ _).alloc (Nat.le_refl _) _)
  have him := alloc_new (w.alloc (.cells #[.int .u32 9, .int .u32 7, .int .u32 9] 31)) #[.int .i64 3, .int .i64 1, .slice (some ⟨w.heap.size, 0, none⟩) 3 3] 24
  have HB1 := Lib.hid hb1; have HR1 := Lib.hid hr1; have HIM := Lib.hid him
  clear hg hb1 hr1 him
  go_enter Try.func8, Try.ntmps8
  go_wp2_with fail
  obtain ⟨B, hB⟩ : ∃ B, w.heap.size = B := ⟨_, rfl⟩
  have him := HIM.out
  rw [World.size_alloc, hB] at him
  have HIM2 := Lib.hid him
  have HB2 := Lib.hid HB1.out; have HR2 := Lib.hid HR1.out
  clear HIM HB1 HR1 him
  rw [hB] at HB2 HR2 ⊢
  generalize (w.alloc (.cells #[.int .u32 9, .int .u32 7, .int .u32 9] 31)).alloc (.cells #[.int .i64 3, .int .i64 1, .slice (some ⟨B, 0, none⟩) 3 3] 24) = w1 at *
  refine (colors_good 3 1 (some ⟨B, 0, none⟩) 3 3 [9, 7, 9] w1 HR2.out (by decide) HG.out).mono ?_
  rw [cols3]
  rintro e w2 ⟨hB2, ⟨h, _⟩ | ⟨_, g, hg, rfl, hr2⟩⟩
  · exact absurd h (by decide)
  have HBB := Lib.hid (below_then HB2.out (by have := HB2.out.size; omega) hB2)
  have HR3 := Lib.hid (HR2.out.below hB2); have HL := Lib.hid (show ReadsInt w2 .u32 (some ⟨g, 0, none⟩) 2 [7, 9] from hr2)
  have him := (Mods.of_below hB2 []).blk HIM2.out (by simp)
  obtain ⟨i0, i1, i2, _, _, _⟩ := box3 him
  have hgl : g < w2.heap.size := block_of HL.out (by decide)
  clear hB2 hr2 HR2 HB2 HIM2 him
  go_wp2_with fail
  refine (pack_good 3 1 (some ⟨B, 0, none⟩) ⟨g, 0, none⟩ 3 3 2 2 [9, 7, 9] [7, 9] w2 HR3.out HL.out (by decide) (by decide) hgl (by decide) 1 (by decide)).mono ?_
  rintro e w3 ⟨hB3, ⟨t, h1, h2, _⟩ | ⟨_, g2, hg2, rfl, hr3⟩⟩
  · exact absurd h2 (found3 t h1)
  have hl3 := HL.out.below hB3
  obtain ⟨al, e1, hcl⟩ := hl3.2.2 (by decide)
  cases e1
  have c0 := hcl 0 (by decide)
  obtain ⟨ar, e2, hcr⟩ := hr3.2.2 (by decide)
  cases e2
  have d0 := hcr 0 (by decide)
  rw [show (bitsT 2) = 3 from rfl] at d0
  have d1 : w3.cell? ⟨g2, 0, none⟩ = some (.int .u32 4278191360) := by
    rw [show (List.map (fun I => (Tb.val 3 1 3 (pnum [7, 9] [9, 7, 9]) 3 I : Int)) (List.range (1 * 1))).getD 0 0 = 4278191360 by
      show ((Tb.val 3 1 3 (pnum [7, 9] [9, 7, 9]) 3 0 : Nat) : Int) = _
      rw [val3]; rfl] at d0
    exact d0
  have c1 : w3.cell? ⟨g, 0, none⟩ = some (.int .u32 7) := c0
  have HB3 := Lib.hid (HBB.out.trans (hB3.mono (by have := HBB.out.size; omega)))
  have hz3 : w.heap.size ≤ w3.heap.size := HB3.out.size
  have c2 : ∀ o, (w3.alloc o).cell? ⟨g, 0, none⟩ = some (.int .u32 7) := fun o => pw_cell_below ((Below.refl _ _).alloc (Nat.le_refl _) o) c1
  have d2 : ∀ o, (w3.alloc o).cell? ⟨g2, 0, none⟩ = some (.int .u32 4278191360) := fun o => pw_cell_below ((Below.refl _ _).alloc (Nat.le_refl _) o) d1
  have HFIN := Lib.hid (fun o => HB3.out.alloc (show B ≤ w3.heap.size by omega) o)
  clear hl3 hcl hcr hr3 hB3 d0 c0 i0 i1 i2 c1 d1
  go_wp2_with fail
  go_ret
  exact ⟨rfl, by rw [hB]; exact HFIN.out _⟩
end Go.Proofs.Ytmgkdlkjcncniaa
