/- plan.stack, token.Fits of no spans; boxes of plans. -/
import Derived.Test.YtbnelomknjnplaaTab1
import Derived.Test.YtbnelomknjnplaaTab2P
import Derived.BigQuiet
namespace Go.Proofs.Ytbnelomknjnplaa
open Go.RowKit
open Go.Proofs.YtbnelomknjnplaaW.PrintWords

/-- May transforms be so, when those of a mask were? -/
def stk : List Int → Nat → Bool
  | [], _ => true
  | k :: t, m => if k < 0 ∨ 3 < k then false else if m / 2 ^ k.toNat % 2 = 1 then false else stk t (m + 2 ^ k.toNat)
theorem bit_mask : ∀ m : Fin 16, ∀ k : Fin 4, bits .and .i64 ((m.val / 2 ^ k.val : Nat) : Int) 1 = ((m.val / 2 ^ k.val % 2 : Nat) : Int) ∧ (m.val / 2 ^ k.val % 2 = 0 → bits .or .i64 (m.val : Int) (2 ^ k.val) = ((m.val + 2 ^ k.val : Nat) : Int) ∧ m.val + 2 ^ k.val < 16) := by decide +kernel

set_option maxHeartbeats 1000000 in
theorem stack_any (A : Option Addr) (n c : Nat) (ss : List Int) (w : World) (HR : ReadsInt w .i64 A n ss) : Calls Try.prog 19 #[.slice A n c] w fun e w' => e = .returned (.bool (stk ss 0)) ∧ w = w' := by
  have HRR := Lib.hid HR
  have hmx := HR.2.1
  clear HR
  go_enter Try.func19, Try.ntmps19
  go_wp2_with fail
  go_loopw [3, 5, 8] (fun mv _ i wr => ∃ k m : Nat, k ≤ n ∧ m < 16 ∧ i = .int .i64 k ∧ mv = .int .i64 m ∧ wr = w ∧ Hid (stk ss 0 = stk (ss.drop k) m)) (fun _ _ i _ => n - (intOf i).toNat)
  case atStart => exact ⟨0, 0, Nat.zero_le _, by omega, rfl, rfl, rfl, Lib.hid rfl⟩
  case round =>
    obtain ⟨k, m, hk, hm, rfl, rfl, rfl, HS⟩ := hrel
    by_cases hlt : k < n
    · obtain ⟨ad, hA, hcell⟩ := HRR.out.2.2 (by omega)
      subst hA
      have c1 := hcell k hlt
      have hdr : ss.drop k = ss.getD k 0 :: ss.drop (k + 1) := by
        rw [List.drop_eq_getElem_cons (by rw [HRR.out.1]; exact hlt), List.getD_eq_getElem?_getD, List.getElem?_eq_getElem (by rw [HRR.out.1]; exact hlt)]; rfl
      rw [hdr] at HS
      obtain ⟨x, hx⟩ : ∃ x, ss.getD k 0 = x := ⟨_, rfl⟩
      rw [hx] at c1 HS
      have h1 : (k : Int) < (n : Int) := by omega
      have h2 : (0 : Int) ≤ (k : Int) := by omega
      clear hdr hx hcell
      by_cases hx0 : x < 0
      · have HF := Lib.hid (show stk ss 0 = false from by rw [HS.out]; unfold stk; rw [if_pos (.inl hx0)])
        have hd : decide (x < 0) = true := decide_eq_true hx0
        clear HS
        go_wp2_with fail
        go_ret
        exact ⟨by rw [HF.out]; rfl, rfl⟩
      have hd : decide (x < 0) = false := decide_eq_false hx0
      by_cases hx3 : 3 < x
      · have HF := Lib.hid (show stk ss 0 = false from by rw [HS.out]; unfold stk; rw [if_pos (.inr hx3)])
        have hd3 : decide (3 < x) = true := decide_eq_true hx3
        clear HS
        go_wp2_with fail
        go_ret
        exact ⟨by rw [HF.out]; rfl, rfl⟩
      have hd3 : decide (3 < x) = false := decide_eq_false hx3
      obtain ⟨q, rfl⟩ : ∃ q : Nat, x = q := ⟨x.toNat, by omega⟩
      have hq : q < 4 := by omega
      obtain ⟨b1, b2⟩ := bit_mask ⟨m, hm⟩ ⟨q, hq⟩
      have b1 : bits .and .i64 ((m / 2 ^ q : Nat) : Int) 1 = ((m / 2 ^ q % 2 : Nat) : Int) := b1
      have b2 : m / 2 ^ q % 2 = 0 → bits .or .i64 (m : Int) (2 ^ q) = ((m + 2 ^ q : Nat) : Int) ∧ m + 2 ^ q < 16 := b2
      rw [show ((m / 2 ^ q : Nat) : Int) = (m : Int) / 2 ^ q from by push_cast; rfl] at b1
      by_cases hb : m / 2 ^ q % 2 = 1
      · have HF := Lib.hid (show stk ss 0 = false from by rw [HS.out]; unfold stk; rw [if_neg (by omega), Int.toNat_natCast, if_pos hb])
        rw [hb] at b1
        clear HS b2
        go_wp2_with fail
        go_ret
        exact ⟨by rw [HF.out]; rfl, rfl⟩
      · have hb0 : m / 2 ^ q % 2 = 0 := by omega
        rw [hb0] at b1
        obtain ⟨b3, b4⟩ := b2 hb0
        have HF := Lib.hid (show stk ss 0 = stk (ss.drop (k + 1)) (m + 2 ^ q) from by rw [HS.out]; conv => lhs; unfold stk; rw [if_neg (by omega), Int.toNat_natCast, if_neg (by omega)])
        have e9 : wrap64 ((2 : Int) ^ q) = 2 ^ q := by
          have : q = 0 ∨ q = 1 ∨ q = 2 ∨ q = 3 := by omega
          rcases this with rfl | rfl | rfl | rfl <;> exact w64 _ (by decide) (by decide)
        clear HS b2
        go_wp2_with fail
        go_roundw
        case rel => exact ⟨k + 1, m + 2 ^ q, by omega, b4, by go_num, by go_num, by first | rfl | trivial, HF⟩
        case measure => simp [intOf]; omega
    · obtain rfl : k = n := by omega
      have HT := Lib.hid (show stk ss 0 = true from by rw [HS.out, List.drop_of_length_le (by rw [HRR.out.1]; exact Nat.le_refl _)]; rfl)
      clear HS
      go_wp2_with fail
      go_ret
      exact ⟨by rw [HT.out]; rfl, rfl⟩

theorem fits_none (A : Option Addr) (n c : Nat) (w : World) : Calls Try.prog 13 #[.slice A n c, .slice none 0 0] w fun e w' => e = .returned (.bool true) ∧ w = w' := by
  go_enter Try.func13, Try.ntmps13
  go_wp2_with fail
  go_loopw [5, 7, 10] (fun _ _ i wr => i = .int .i64 0 ∧ wr = w) (fun _ _ _ _ => 0)
  case atStart => exact ⟨rfl, rfl⟩
  case round =>
    obtain ⟨rfl, rfl⟩ := hrel
    go_wp2_with fail
    go_ret
    exact ⟨rfl, rfl⟩
end Go.Proofs.Ytbnelomknjnplaa
