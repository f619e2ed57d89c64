/- The law's own answers. -/
import Derived.Test.YtbnelomknjnplaaPlnC
import Derived.Test.YtbnelomknjnplaaStk3
namespace Go.Proofs.Ytbnelomknjnplaa
open Go.RowKit
open Go.Proofs.YtbnelomknjnplaaW.PrintWords

theorem reads_one32 {W : World} {e : TypeId} {g : Nat} {p : Int} (h : W.heap[g]? = some (.cells #[.int .u32 p] e (0, 0))) : ReadsInt W .u32 (some ⟨g, 0, none⟩) 1 [p] := by
  refine ⟨rfl, by decide, fun _ => ⟨_, rfl, fun j hj => ?_⟩⟩
  obtain rfl : j = 0 := by omega
  have := cell_blk h 0
  exact this
theorem nil_reads (w : World) (k : IntKind) : ReadsInt w k none 0 [] := ⟨rfl, by simp, fun h => absurd h (Nat.lt_irrefl 0)⟩

set_option maxRecDepth 100000 in
set_option maxHeartbeats 4000000 in
theorem answers20 (w : World) : Calls Try.prog 6 #[] w fun e w' => e = .returned (.bool true) ∧ Below w.heap.size w w' := by
  obtain ⟨h1, h2, h3, hb, hs⟩ := boxes3 w #[.int .u32 1052688] #[.int .i64 1, .int .i64 1, .slice (some ⟨w.heap.size, 0, none⟩) 1 1] #[.int .i64 2] 38 24 3
  have H1 := Lib.hid (reads_one32 h1); have H2 := Lib.hid h2; have H3 := Lib.hid (reads_oneI h3); have HB := Lib.hid hb
  have HG := Lib.hid (show goodI 1 1 1 = true from by decide)
  clear h1 h2 h3 hb
  go_enter Try.func6, Try.ntmps6
  go_wp2_with fail
  generalize ((w.alloc (.cells #[.int .u32 1052688] 38)).alloc (.cells #[.int .i64 1, .int .i64 1, .slice (some ⟨w.heap.size, 0, none⟩) 1 1] 24)).alloc (.cells #[.int .i64 2] 3) = w0 at *
  refine (apply_good 1 1 ⟨w.heap.size, 0, none⟩ 1 1 [1052688] (some ⟨w.heap.size + 2, 0, none⟩) 1 1 0 0 none 0 0 w0 H1.out (by simp) (by omega) (by omega) HG.out (by omega) H3.out).mono ?_
  rintro e w1 ⟨hB, A2, c2, rfl, hr⟩
  have hz := hB.size
  obtain ⟨ad, hA, hc⟩ := hr.2.2 (by omega)
  subst hA
  have hc0 := hc 0 (by omega)
  rw [show ad.add 0 = ad from by simp [Addr.add], show (greens 1 [1052688]).getD 0 0 = 4096 from by decide] at hc0
  have HX2 := Lib.hid ((Mods.of_below hB []).blk H2.out (by simp))
  have HR1 := Lib.hid (H1.out.below hB)
  have HBB := Lib.hid (below_then HB.out (by omega) hB)
  have hca : ∀ o, (w1.alloc o).cell? ad = some (.int .u32 4096) := fun o => pw_cell_below ((Below.refl _ w1).alloc (Nat.le_refl _) o) hc0
  have hia : ∀ o, (w1.alloc o).heap[w.heap.size + 1]? = some (.cells #[.int .i64 1, .int .i64 1, .slice (some ⟨w.heap.size, 0, none⟩) 1 1] 24 (0, 0)) := fun o => (((Below.refl _ w1).alloc (Nat.le_refl _) o).block _ (blk_lt HX2.out)).trans HX2.out
  have a0 := fun o => (box3 (hia o)).1
  have a1 := fun o => (box3 (hia o)).2.1
  have a2 := fun o => (box3 (hia o)).2.2.1
  have hba : ∀ o, Below w.heap.size w (w1.alloc o) := fun o => HBB.out.alloc (by omega) o
  have hra : ∀ o, ReadsInt (w1.alloc o) .u32 (some ⟨w.heap.size, 0, none⟩) 1 [1052688] := fun o => HR1.out.below ((Below.refl _ w1).alloc (Nat.le_refl _) o)
  have HBA := Lib.hid hba; have HRA := Lib.hid hra
  have hsa : w.heap.size ≤ w1.heap.size := by omega
  clear hB hr hc hc0 hia hba hra
  go_wp2_with fail
  clear a0 a1 a2
  refine (valid_good 1 1 ⟨w.heap.size, 0, none⟩ 1 1 [1052688] none 0 0 0 none 0 0 _ (HRA.out _) (by simp) (by omega) (by omega) HG.out (by omega) (nil_reads _ _)).mono ?_
  rintro e w5 ⟨rfl, hB5⟩
  have HB5 := Lib.hid (below_then (HBA.out _) (by simp; omega) hB5)
  have hz5 := HB5.out.size
  clear hB5 hca
  go_wp2_with fail
  refine (stacks_any w5).mono ?_
  rintro e w6 ⟨hB6, g, cap, f, rfl, _, _⟩
  have HB6 := Lib.hid (below_then HB5.out hz5 hB6)
  clear hB6
  go_wp2_with fail
  go_ret
  exact ⟨rfl, HB6.out⟩
end Go.Proofs.Ytbnelomknjnplaa
