/- The library's insertion sort at 32-bit numbers. -/
import Derived.Test.YtmgkdlkjcncniaaSrtA
namespace Go.Proofs.Ytmgkdlkjcncniaa
open Go.RowKit
open Go.Proofs.YtmgkdlkjcncniaaW.PrintWords

theorem ins_go (a j : Nat) (d : Array Int) (hj : a < j) (hl : Sort.ltInt d[j]! d[j - 1]! = true) : Sort.insInner Sort.ltInt a j d = Sort.insInner Sort.ltInt a (j - 1) (Sort.swp d j (j - 1)) := by
  obtain ⟨k, rfl⟩ : ∃ k, j = k + 1 := ⟨j - 1, by omega⟩
  rw [Sort.insInner, if_pos (by rw [Nat.add_sub_cancel] at hl; simp [hl]; omega)]
  rfl
theorem ins_stop (a j : Nat) (d : Array Int) (h : j ≤ a ∨ Sort.ltInt d[j]! d[j - 1]! = false) : Sort.insInner Sort.ltInt a j d = d := by
  cases j with
  | zero => rw [Sort.insInner]
  | succ k =>
    rw [Sort.insInner, if_neg]
    rw [Nat.add_sub_cancel] at h
    rcases h with h | h
    · simp; intro h'; omega
    · simp [h]
theorem insO_go (a b i : Nat) (d : Array Int) (h : i < b) : Sort.insOuter Sort.ltInt a b i d = Sort.insOuter Sort.ltInt a b (i + 1) (Sort.insInner Sort.ltInt a i d) := by rw [Sort.insOuter, if_pos h]
theorem insO_stop (a b i : Nat) (d : Array Int) (h : ¬ i < b) : Sort.insOuter Sort.ltInt a b i d = d := by rw [Sort.insOuter, if_neg h]
theorem lt_of {x y : Int} (h : x < y) : Sort.ltInt x y = true := by simp [Sort.ltInt, h]
theorem nlt_of {x y : Int} (h : ¬ x < y) : Sort.ltInt x y = false := by simp [Sort.ltInt]; omega

set_option maxHeartbeats 1000000 in
theorem insertionU (base g n cap a b : Nat) (d : Array Int) (w : World) (hn : n ≤ 1152921504606846975) (hab : a ≤ b) (hb : b ≤ n) (H : RowU w base g n cap d) :
    Calls Try.prog 42 #[.slice (some ⟨g, 0, none⟩) n cap, .int .i64 a, .int .i64 b] w
      fun e w' => e = .returned (.tuple #[]) ∧ RowU w' base g n cap (Sort.insertionSort Sort.ltInt d a b) ∧ Mods [g] w w' := by
  have HR := Lib.hid H
  clear H
  go_enter Try.func42, Try.ntmps42
  go_wp2
  go_loopw [6] (fun vi wr => ∃ (i : Nat) (e : Array Int), vi = .int .i64 i ∧ a < i ∧ i ≤ b + 1 ∧ Hid (RowU wr base g n cap e) ∧ Hid (Sort.insOuter Sort.ltInt a b i e = Sort.insertionSort Sort.ltInt d a b) ∧ Hid (Mods [g] w wr)) (fun vi _ => b + 1 - (intOf vi).toNat)
  case atStart => exact ⟨a + 1, d, by go_num, by omega, by omega, HR.out, rfl, Mods.refl _ _⟩
  case round =>
    obtain ⟨i, e, rfl, hai, hib, HRE, HO, HM⟩ := hrel
    obtain ⟨W0, hW0⟩ : ∃ W0 : World, W0 = wr := ⟨_, rfl⟩
    subst hW0
    by_cases hlt : i < b
    · have hlt' : (i : Int) < (b : Int) := by omega
      go_wp2
      go_loopw [7] (fun vj wr => ∃ (j : Nat) (f : Array Int), vj = .int .i64 j ∧ a ≤ j ∧ j ≤ i ∧ Hid (RowU wr base g n cap f) ∧ Hid (Sort.insInner Sort.ltInt a j f = Sort.insInner Sort.ltInt a i e) ∧ Hid (Mods [g] w wr)) (fun vj _ => (intOf vj).toNat)
      case atStart => exact ⟨i, e, rfl, by omega, Nat.le_refl _, HRE.out, rfl, HM.out⟩
      case round =>
        obtain ⟨j, f, rfl, haj, hji, HRF, HI, HMF⟩ := hrel
        have OUT := Lib.hid (show (j ≤ a ∨ Sort.ltInt f[j]! f[j - 1]! = false) → Sort.insOuter Sort.ltInt a b (i + 1) f = Sort.insertionSort Sort.ltInt d a b from fun hs => by
          rw [← HO.out, insO_go _ _ _ _ hlt, ← HI.out, ins_stop _ _ _ hs])
        by_cases hja : a < j
        · obtain ⟨k, rfl⟩ : ∃ k, j = k + 1 := ⟨j - 1, by omega⟩
          obtain ⟨c1, f1⟩ := HRF.out.at_ (k + 1) (by omega)
          obtain ⟨c2, f2⟩ := HRF.out.at_ k (by omega)
          have hsw := fun m => (HRF.out.drewN m).swp (k + 1) k
          have hgo := ins_go a (k + 1) f hja
          rw [Nat.add_sub_cancel] at hgo
          have HSW := Lib.hid hsw; have HGO := Lib.hid hgo
          have OUT2 := Lib.hid (show Sort.ltInt f[k + 1]! f[k]! = false → _ from fun h => OUT.out (.inr (by rw [Nat.add_sub_cancel]; exact h)))
          clear hsw hgo OUT
          generalize f[k + 1]! = x at *
          generalize f[k]! = y at *
          have hdec : decide ((a : Int) < (k : Int) + 1) = true := by simp; omega
          have hj1 : (k : Int) + 1 < n := by omega
          have hk1 : (k : Int) < n := by omega
          go_wp2
          go_quiet (first | (go_at_call 48; refine Calls.quiet_of_same (less_any _ _ _)))
          generalize hl : Sort.ltInt x y = lb at *
          cases lb with
          | true =>
            go_wp2
            go_region
            all_goals go_wp2
            go_roundw
            case rel => exact ⟨k, _, rfl, by omega, by omega, HSW.out _, (HGO.out trivial).symm.trans HI.out, ((HMF.out.drewN _).setCell (.inl (by simp)) _).setCell (.inl (by simp)) _⟩
            case measure => simp [intOf]
          | false =>
            have h := OUT2.out rfl
            have HH := Lib.hid h
            clear h
            go_wp2
            go_roundw
            case rel => exact ⟨i + 1, f, by go_num, by omega, by omega, HRF.out.drewN _, HH.out, HMF.out.drewN _⟩
            case measure => simp [intOf]; omega
        · have hdec : decide ((a : Int) < (j : Int)) = false := by simp; omega
          have h := OUT.out (.inl (by omega))
          have HH := Lib.hid h
          clear h OUT
          go_wp2
          go_quiet (fail)
          go_wp2
          go_roundw
          case rel => exact ⟨i + 1, f, by go_num, by omega, by omega, HRF.out.drewN _, HH.out, HMF.out.drewN _⟩
          case measure => simp [intOf]; omega
    · have hge : ¬ (i : Int) < (b : Int) := by omega
      have h := HO.out
      rw [insO_stop _ _ _ _ hlt] at h
      subst h
      go_wp2
      go_end0
      exact ⟨rfl, HRE.out, HM.out⟩
end Go.Proofs.Ytmgkdlkjcncniaa
