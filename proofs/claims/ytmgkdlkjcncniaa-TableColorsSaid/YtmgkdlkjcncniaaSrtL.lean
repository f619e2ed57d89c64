/- slices.Sort at 32-bit numbers. -/
import Derived.Test.YtmgkdlkjcncniaaSrtK
namespace Go.Proofs.Ytmgkdlkjcncniaa
open Go.RowKit
open Go.Proofs.YtmgkdlkjcncniaaW.PrintWords

theorem bitsLen_small {n : Nat} (h : n ≤ 1152921504606846975) : Sort.bitsLen n ≤ 1000 := by
  have := (Sort.bitsLen_le_iff n 62).2 (by omega)
  omega

/-- A row of numbers is sorted where it lies. -/
theorem sort_any (base g n cap : Nat) (ls : List Int) (w : World) (hn : n ≤ 1152921504606846975) (H : w.ownsRow base 31 1 (.slice (some ⟨g, 0, none⟩) n cap) n (nums .u32 ls)) (hg : g < w.heap.size) :
    Calls Try.prog 23 #[.slice (some ⟨g, 0, none⟩) n cap] w
      fun e w' => e = .returned (.tuple #[]) ∧ w'.ownsRow base 31 1 (.slice (some ⟨g, 0, none⟩) n cap) n (nums .u32 (ls.mergeSort fun x y => decide (x ≤ y))) ∧ Mods [g] w w' := by
  have hR : RowU w base g n cap ls.toArray := H
  have hsz := hR.size
  have hs := Sort.sortInt ls
  have hpd : (Sort.pdq Sort.ltInt ls.toArray 0 n (Sort.bitsLen n) true true).toList = ls.mergeSort (fun x y => decide (x ≤ y)) := by
    rw [← hs]; unfold Sort.sort; rw [hsz]
  have hLen : ∀ w, Calls Try.prog 37 #[.int .u64 (n : Int)] w fun e w' => e = .returned (.int .i64 (Sort.bitsLen n : Nat)) ∧ w' = w := fun w => by
    have h := Try.bits_Len (n : Int) w (by omega) (by omega)
    rwa [Int.toNat_natCast, bitLen_eq _ (by omega)] at h
  have wr : IntKind.u64.wrap (n : Int) = n := by simp [IntKind.wrap, IntKind.bits, IntKind.signed]; omega
  have call := pdqU (n - 0) base g n cap 0 n (Sort.bitsLen n) ls.toArray w rfl hn (Nat.zero_le _) (Nat.le_refl _) (bitsLen_small hn) hR hg
  have CALL := Lib.hid call; have HP := Lib.hid hpd
  clear call H hR hs hpd hsz
  go_enter Try.func23, Try.ntmps23
  go_wp2_with (first | (go_at_call 37; refine (hLen _).mono ?_; rintro e w' ⟨rfl, rfl⟩))
  refine CALL.out.mono ?_
  rintro e w1 ⟨rfl, hr1, hm1⟩
  go_wp2_with fail
  go_end0
  refine ⟨rfl, ?_, hm1⟩
  have := hr1
  unfold RowU at this
  rw [HP.out] at this
  exact this
end Go.Proofs.Ytmgkdlkjcncniaa
