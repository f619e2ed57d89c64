/- The reference's Sub. -/
import Derived.Test.YtmgkdlkjcncniaaRefTab1
import Derived.Test.YtmgkdlkjcncniaaTab9
namespace Go.Proofs.Ytmgkdlkjcncniaa
open Go.RowKit
open Go.Proofs.YtmgkdlkjcncniaaW.PrintWords

def subS (p q : Int) (k : Nat) : Array Value := #[.int .i64 (if 0 < k then partP p 0 - partP q 0 else 0), .int .i64 (if 1 < k then partP p 1 - partP q 1 else 0), .int .i64 (if 2 < k then partP p 2 - partP q 2 else 0), .int .i64 (if 3 < k then partP p 3 - partP q 3 else 0)]
theorem subS_set (p q : Int) {k : Nat} (hk : k < 4) : (subS p q k).setIfInBounds k (.int .i64 (partP p k - partP q k)) = subS p q (k + 1) := by
  have h : k = 0 ∨ k = 1 ∨ k = 2 ∨ k = 3 := by omega
  rcases h with rfl | rfl | rfl | rfl <;> rfl
theorem subS_at (p q : Int) {k : Nat} (hk : k < 4) : (subS p q k)[k]? = some (.int .i64 0) := by
  have h : k = 0 ∨ k = 1 ∨ k = 2 ∨ k = 3 := by omega
  rcases h with rfl | rfl | rfl | rfl <;> rfl

set_option maxHeartbeats 2000000 in
theorem refSub_any (p q : Int) (w : World) (hp : 0 ≤ p ∧ p < 4294967296) (hq : 0 ≤ q ∧ q < 4294967296) : Calls Try.prog 20 #[.int .u32 p, .int .u32 q] w fun e w' => e = .returned (.int .u32 (subP p q)) ∧ Below w.heap.size w w' := by
  have HP := Lib.hid hp; have HQ := Lib.hid hq
  clear hp hq
  have hn := alloc_new w (subS p q 0) 54
  have hb1 := (Below.refl _ w).alloc (Nat.le_refl _) (.cells (subS p q 0) 54)
  obtain ⟨X, hX⟩ : ∃ X, w.heap.size = X := ⟨_, rfl⟩
  rw [hX] at hn hb1
  have HX := Lib.hid hX; have HN := Lib.hid hn; have HB := Lib.hid hb1
  clear hX hn hb1
  go_enter Try.func20, Try.ntmps20
  go_wp2_with fail
  rw [HX.out]
  have HN' : Hid ((w.alloc (.cells #[.int .i64 0, .int .i64 0, .int .i64 0, .int .i64 0] 54)).heap[X]? = some (.cells (subS p q 0) 54 (0, 0))) := HN
  have HB' : Hid (Below X w (w.alloc (.cells #[.int .i64 0, .int .i64 0, .int .i64 0, .int .i64 0] 54))) := HB
  clear HN HB
  generalize w.alloc (.cells #[.int .i64 0, .int .i64 0, .int .i64 0, .int .i64 0] 54) = w1 at *
  go_loopw [6] (fun i wr => ∃ k : Nat, k ≤ 4 ∧ i = .int .i64 k ∧ Hid (wr.heap[X]? = some (.cells (subS p q k) 54 (0, 0))) ∧ Hid (Below X w wr)) (fun i _ => 4 - (intOf i).toNat)
  case atStart => exact ⟨0, Nat.zero_le _, rfl, HN', HB'⟩
  case round =>
    obtain ⟨k, hk, rfl, HN, HB⟩ := hrel
    clear HN' HB'
    by_cases hlt : k < 4
    · have c1 : wr.cell? ⟨X, k, none⟩ = some (.int .i64 0) := by rw [cell_blk HN.out]; exact subS_at p q hlt
      have f1 := free_blk HN.out k
      have hd : decide ((k : Int) < 4) = true := by simp; omega
      have hd2 : (k : Int) < 4 := by omega
      have hd3 : (0 : Int) ≤ (k : Int) := by omega
      have hs := blk_set HN.out k (.int .i64 (partP p k - partP q k))
      rw [subS_set p q hlt] at hs
      have HS := Lib.hid hs
      have HBS := Lib.hid (HB.out.setCell (p := ⟨X, k, none⟩) (Nat.le_refl _) (.int .i64 (partP p k - partP q k)))
      have r1 := partP_lt p k
      have r2 := partP_lt q k
      have e2 : wrap64 (partP p k - partP q k) = partP p k - partP q k := w64 _ (by omega) (by omega)
      clear hs
      go_wp2_with fail
      refine (part_any p k _ HP.out.1 HP.out.2 hlt).mono ?_
      rintro e w2 ⟨rfl, rfl⟩
      go_wp2_with fail
      refine (part_any q k _ HQ.out.1 HQ.out.2 hlt).mono ?_
      rintro e w2 ⟨rfl, rfl⟩
      go_wp2_with fail
      go_roundw
      case rel => exact ⟨k + 1, by omega, by go_num, HS, HBS⟩
      case measure => simp [intOf]; omega
    · obtain rfl : k = 4 := by omega
      have d0 : wr.cell? ⟨X, 0, none⟩ = some (.int .i64 (partP p 0 - partP q 0)) := by rw [cell_blk HN.out]; rfl
      have d1 : wr.cell? ⟨X, 1, none⟩ = some (.int .i64 (partP p 1 - partP q 1)) := by rw [cell_blk HN.out]; rfl
      have d2 : wr.cell? ⟨X, 2, none⟩ = some (.int .i64 (partP p 2 - partP q 2)) := by rw [cell_blk HN.out]; rfl
      have d3 : wr.cell? ⟨X, 3, none⟩ = some (.int .i64 (partP p 3 - partP q 3)) := by rw [cell_blk HN.out]; rfl
      have r0 := partP_lt p 0; have r1 := partP_lt p 1; have r2 := partP_lt p 2; have r3 := partP_lt p 3
      have s0 := partP_lt q 0; have s1 := partP_lt q 1; have s2 := partP_lt q 2; have s3 := partP_lt q 3
      have MK := Lib.hid (fun wz => make_any (partP p 0 - partP q 0) (partP p 1 - partP q 1) (partP p 2 - partP q 2) (partP p 3 - partP q 3) wz (by omega) (by omega) (by omega) (by omega))
      clear r0 r1 r2 r3 s0 s1 s2 s3
      go_wp2_with fail
      refine (MK.out _).mono ?_
      rintro e w5 ⟨rfl, hB5⟩
      have HB5 := Lib.hid (below_then HB.out (show X ≤ wr.heap.size from by obtain ⟨h, _⟩ := Array.getElem?_eq_some_iff.1 HN.out; omega) hB5)
      clear hB5
      go_wp2_with fail
      go_ret
      exact ⟨rfl, by rw [HX.out]; exact HB5.out⟩
end Go.Proofs.Ytmgkdlkjcncniaa
