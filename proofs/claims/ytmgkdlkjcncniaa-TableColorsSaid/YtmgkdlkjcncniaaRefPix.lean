/- The reference's Pixels and Same, of pictures that are the same. -/
import Derived.Test.YtmgkdlkjcncniaaTab6
namespace Go.Proofs.Ytmgkdlkjcncniaa
open Go.RowKit
open Go.Proofs.YtmgkdlkjcncniaaW.PrintWords

set_option maxHeartbeats 1000000 in
theorem pixels_same (A B : Option Addr) (n c d : Nat) (xs : List Int) (w : World) (HR : ReadsInt w .u32 A n xs) (HS : ReadsInt w .u32 B n xs) :
    Calls Try.prog 17 #[.slice A n c, .slice B n d] w fun e w' => e = .returned (.bool true) ∧ Below w.heap.size w w' := by
  have HRR := Lib.hid HR; have HSS := Lib.hid HS
  have hmx := HR.2.1
  clear HR HS
  go_enter Try.func17, Try.ntmps17
  go_wp2_with fail
  go_loopw [5] (fun i wr => ∃ k : Nat, k ≤ n ∧ i = .int .i64 k ∧ Hid (∃ q, wr = w.drewN q)) (fun i _ => n - (intOf i).toNat)
  case atStart => exact ⟨0, Nat.zero_le _, rfl, 0, rfl⟩
  case round =>
    obtain ⟨k, hk, rfl, HQ⟩ := hrel
    by_cases hlt : k < n
    · obtain ⟨ad, hA, hcell⟩ := ReadsInt.at_ HRR.out (k : Int) (by omega) (by omega)
      obtain ⟨bd, hB, hcelb⟩ := ReadsInt.at_ HSS.out (k : Int) (by omega) (by omega)
      rw [Int.toNat_natCast] at hcell hcelb
      subst hA hB
      have hc1 : wr.cell? (ad.add k) = some (.int .u32 (rd xs k)) := by obtain ⟨q, e⟩ := HQ.out; rw [e]; simpa using hcell
      have hc2 : wr.cell? (bd.add k) = some (.int .u32 (rd xs k)) := by obtain ⟨q, e⟩ := HQ.out; rw [e]; simpa using hcelb
      clear hcell hcelb
      generalize rd xs (k : Int) = x at *
      go_wp2_with fail
      go_quiet (fail)
      go_wp2_with fail
      go_roundw
      case rel => exact ⟨k + 1, by omega, by go_num, by obtain ⟨q, e⟩ := HQ.out; exact ⟨q + nq, by rw [e, World.drewN_drewN]⟩⟩
      case measure => simp [intOf]; omega
    · have hkk : k = n := by omega
      subst hkk
      go_wp2_with fail
      go_ret
      refine ⟨rfl, ?_⟩
      obtain ⟨q, e⟩ := HQ.out
      rw [e]; exact ⟨rfl, rfl, rfl, Nat.le_refl _, fun _ _ => rfl⟩

set_option maxHeartbeats 1000000 in
theorem same_same (W H : Int) (A B : Option Addr) (n c d : Nat) (xs : List Int) (w : World) (HR : ReadsInt w .u32 A n xs) (HS : ReadsInt w .u32 B n xs) :
    Calls Try.prog 14 #[.agg #[.int .i64 W, .int .i64 H, .slice A n c], .agg #[.int .i64 W, .int .i64 H, .slice B n d]] w fun e w' => e = .returned (.bool true) ∧ Below w.heap.size w w' := by
  have hb1 := (Below.refl _ w).alloc (Nat.le_refl _) (.cells #[.int .i64 W, .int .i64 H, .slice A n c] 24)
  have hb2 := hb1.alloc (by simp) (.cells #[.int .i64 W, .int .i64 H, .slice B n d] 24)
  have HB2 := Lib.hid hb2
  have hr := HR.below hb2
  have hs := HS.below hb2
  have HRR := Lib.hid hr; have HSS := Lib.hid hs
  have e1 := alloc_new w #[.int .i64 W, .int .i64 H, .slice A n c] 24
  have e2 := alloc_new (w.alloc (.cells #[.int .i64 W, .int .i64 H, .slice A n c] 24)) #[.int .i64 W, .int .i64 H, .slice B n d] 24
  have e3 := (Below.heap_alloc (w.alloc (.cells #[.int .i64 W, .int .i64 H, .slice A n c] 24)) (.cells #[.int .i64 W, .int .i64 H, .slice B n d] 24) w.heap.size (by simp)).trans e1
  have hsz : (w.alloc (.cells #[.int .i64 W, .int .i64 H, .slice A n c] 24)).heap.size = w.heap.size + 1 := by simp
  obtain ⟨p0, p1, p2, _, _, _⟩ := box3 e3
  rw [hsz] at e2
  obtain ⟨q0, q1, q2, _, _, _⟩ := box3 e2
  have hszz : ((w.alloc (.cells #[.int .i64 W, .int .i64 H, .slice A n c] 24)).alloc (.cells #[.int .i64 W, .int .i64 H, .slice B n d] 24)).heap.size = w.heap.size + 2 := by simp
  clear hb1 hb2 hr hs HR HS e1 e2 e3
  go_enter Try.func14, Try.ntmps14
  go_wp2_with fail
  refine (pixels_same A B n c d xs _ HRR.out HSS.out).mono ?_
  rintro e w5 ⟨rfl, hB5⟩
  have HB5 := Lib.hid hB5
  clear hB5
  go_wp2_with fail
  go_ret
  refine ⟨rfl, below_then HB2.out (by omega) HB5.out⟩
end Go.Proofs.Ytmgkdlkjcncniaa
