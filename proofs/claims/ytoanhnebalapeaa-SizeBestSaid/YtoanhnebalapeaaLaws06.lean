/- The laws of layer 6: what they all ask. -/
import Derived.Test.YtoanhnebalapeaaLaws06P
namespace Go.Proofs.Ytoanhnebalapeaa
open Go.RowKit
open Go.Proofs.YtoanhnebalapeaaW.PrintWords
open Srt Sz

set_option maxHeartbeats 1000000 in
theorem answers06 (w : World) : Calls Try.prog 32 #[] w fun e w' => e = .returned (.bool true) ∧ Below w.heap.size w w' := by
  have H1 := Lib.hid (show okS [5, 1, 1] 15 = true from by decide)
  have H2 := Lib.hid (show totS [5, 1, 1] [1, 2, 2] 3 = 9 from by simp [totS, ln, wrap64])
  go_enter Try.func32, Try.ntmps32
  go_wp2_with fail
  refine (best_any (some ⟨w.heap.size, 0, none⟩) 3 3 [5, 1, 1] 15 _ (reads_lit w 3 .i64 [5, 1, 1] (by decide))).mono ?_
  rintro e w1 ⟨hB, ⟨h, _⟩ | ⟨_, v, out, rfl, hO, hI⟩⟩
  · rw [H1.out] at h; cases h
  obtain rfl := best_511 hI
  obtain ⟨g, c, rfl, hg⟩ := own_someQ hO (by decide)
  obtain ⟨hc0, _⟩ := own_at hO 0 (by decide) (by decide)
  have hB1 : Below w.heap.size w w1 := ((Below.refl _ w).alloc (Nat.le_refl _) _).trans (hB.mono (by simp))
  have HB1 := Lib.hid hB1
  have HR1 := Lib.hid (own_reads' hO)
  have hs1 := hB1.size
  have hc1 : w1.cell? ⟨g, 0, none⟩ = some (.int .i64 1) := hc0
  clear hB1 hO hB hg hI hc0
  go_wp2_with fail
  refine (total_size (some ⟨w1.heap.size, 0, none⟩) (some ⟨g, 0, none⟩) 3 3 3 c [5, 1, 1] [1, 2, 2] _ (reads_lit w1 3 .i64 [5, 1, 1] (by decide)) (HR1.out.below ((Below.refl _ w1).alloc (Nat.le_refl _) _))).mono ?_
  rintro e w2 ⟨rfl, q, rfl⟩
  rw [show min 3 3 = 3 from rfl, H2.out]
  have HB2 := Lib.hid (show Below w.heap.size w ((w1.alloc (.cells (List.map (fun n => Value.int .i64 n) [5, 1, 1]).toArray 3)).drewN q) from below_then (HB1.out.alloc HB1.out.size (.cells (List.map (fun n => Value.int .i64 n) [5, 1, 1]).toArray 3)) (HB1.out.alloc HB1.out.size (.cells (List.map (fun n => Value.int .i64 n) [5, 1, 1]).toArray 3)).size (Mods.drewN (Mods.refl [] _) q).below)
  go_wp2_with fail
  go_ret
  exact ⟨rfl, HB2.out⟩
end Go.Proofs.Ytoanhnebalapeaa
