/- The library's heap sort at 32-bit numbers. -/
import Derived.Test.YtmgkdlkjcncniaaSrtE
namespace Go.Proofs.Ytmgkdlkjcncniaa
open Go.RowKit
open Go.Proofs.YtmgkdlkjcncniaaW.PrintWords

theorem hb_go (hi first k : Nat) (d : Array Int) : Sort.heapBuild Sort.ltInt hi first (k + 1) d = Sort.heapBuild Sort.ltInt hi first k (Sort.siftDown Sort.ltInt hi first k d) := rfl
theorem hp_go (first k : Nat) (d : Array Int) : Sort.heapPop Sort.ltInt first (k + 1) d = Sort.heapPop Sort.ltInt first k (Sort.siftDown Sort.ltInt k first 0 (Sort.swp d first (first + k))) := rfl

set_option maxHeartbeats 2000000 in
theorem heapSortU (base g n cap a b : Nat) (d : Array Int) (w : World) (hn : n ≤ 1152921504606846975) (hab : a < b) (hb : b ≤ n) (H : RowU w base g n cap d) :
    Calls Try.prog 43 #[.slice (some ⟨g, 0, none⟩) n cap, .int .i64 a, .int .i64 b] w
      fun e w' => e = .returned (.tuple #[]) ∧ RowU w' base g n cap (Sort.heapSort Sort.ltInt d a b) ∧ Mods [g] w w' := by
  have HR := Lib.hid H
  clear H
  obtain ⟨m, hm⟩ : ∃ m, b = a + (m + 1) := ⟨b - a - 1, by omega⟩
  have hm' : (b : Int) - (a : Int) = (m : Int) + 1 := by omega
  obtain ⟨h2, hh⟩ : ∃ h2, m / 2 = h2 := ⟨_, rfl⟩
  have hh' : (m : Int) / 2 = (h2 : Int) := by omega
  have hh3 : h2 ≤ m := by omega
  have hfin : Sort.heapSort Sort.ltInt d a b = Sort.heapPop Sort.ltInt a (m + 1) (Sort.heapBuild Sort.ltInt (m + 1) a (h2 + 1) d) := by
    unfold Sort.heapSort
    rw [show b - a = m + 1 by omega, Nat.add_sub_cancel, hh]
  obtain ⟨B, hB⟩ : ∃ B, Sort.heapBuild Sort.ltInt (m + 1) a (h2 + 1) d = B := ⟨_, rfl⟩
  rw [hB] at hfin
  rw [hfin]
  have HB := Lib.hid hB; have HMM := Lib.hid hm
  have ham : a + (m + 1) ≤ n := by omega
  clear hB hfin hm hh
  go_enter Try.func43, Try.ntmps43
  go_wp2
  go_loopw [9] (fun vi wr => ∃ (k : Nat) (e : Array Int), vi = .int .i64 ((k : Int) - 1) ∧ k ≤ n ∧ Hid (RowU wr base g n cap e) ∧ Hid (Sort.heapBuild Sort.ltInt (m + 1) a k e = B) ∧ Hid (Mods [g] w wr)) (fun vi _ => (intOf vi + 1).toNat)
  case atStart => exact ⟨h2 + 1, d, by go_num, by omega, HR.out, HB.out, Mods.refl _ _⟩
  case round =>
    obtain ⟨k, e, rfl, hkn, HRE, HO, HM⟩ := hrel
    cases k with
    | succ k =>
      have hk0 : ((k + 1 : Nat) : Int) - 1 = k := by omega
      rw [hk0]
      have hgo := HO.out
      rw [hb_go] at hgo
      have HGO := Lib.hid hgo
      clear hgo HO hk0
      go_wp2_with fail
      refine (siftDownU base g n cap k (m + 1) a e wr hn ham (by omega) HRE.out).mono ?_
      rintro e1 w1 ⟨rfl, hr1, hm1⟩
      have HR1 := Lib.hid hr1; have HM1 := Lib.hid (HM.out.trans hm1)
      clear hr1 hm1
      go_wp2_with fail
      go_roundw
      case rel => exact ⟨k, _, by go_num, by omega, HR1.out, HGO.out, HM1.out⟩
      case measure => simp [intOf]
    | zero =>
      have hgo := HO.out
      rw [show Sort.heapBuild Sort.ltInt (m + 1) a 0 e = e from rfl] at hgo
      subst hgo
      obtain ⟨W0, hW0⟩ : ∃ W0 : World, W0 = wr := ⟨_, rfl⟩
      subst hW0
      clear HB HO
      go_wp2
      go_loopw [10] (fun vi wr => ∃ (k : Nat) (f : Array Int), vi = .int .i64 ((k : Int) - 1) ∧ k ≤ m + 1 ∧ Hid (RowU wr base g n cap f) ∧ Hid (Sort.heapPop Sort.ltInt a k f = Sort.heapPop Sort.ltInt a (m + 1) e) ∧ Hid (Mods [g] w wr)) (fun vi _ => (intOf vi + 1).toNat)
      case atStart => exact ⟨m + 1, e, by go_num, Nat.le_refl _, HRE.out, rfl, HM.out⟩
      case round =>
        obtain ⟨k, f, rfl, hkm, HRF, HO2, HM2⟩ := hrel
        cases k with
        | succ k =>
          have hk0 : ((k + 1 : Nat) : Int) - 1 = k := by omega
          rw [hk0]
          have hgo := HO2.out
          rw [hp_go] at hgo
          have HGO := Lib.hid hgo
          obtain ⟨c1, f1⟩ := HRF.out.at_ a (by omega)
          obtain ⟨c2, f2⟩ := HRF.out.at_ (a + k) (by omega)
          have hsw := HRF.out.drew.swp a (a + k)
          have HSW := Lib.hid hsw
          have hak : (a : Int) + (k : Int) < n := by omega
          have han : (a : Int) < n := by omega
          obtain ⟨c3, f3⟩ := HRF.out.at2 a (a + k) (by omega) (by omega)
          have hwk : IntKind.i64.wrap ((a : Int) + (k : Int)) = (a : Int) + (k : Int) := IntWalk.i64_in _ (by omega)
          clear hgo HO2 hk0 hsw
          generalize f[a]! = x at *
          generalize f[a + k]! = y at *
          go_wp2
          go_region
          all_goals go_wp2_with fail
          refine (siftDownU base g n cap 0 k a _ _ hn (by omega) (by omega) HSW.out).mono ?_
          rintro e1 w1 ⟨rfl, hr1, hm1⟩
          have HR1 := Lib.hid hr1; have HM1 := Lib.hid ((((HM2.out.drew).setCell (.inl (by simp)) _).setCell (.inl (by simp)) _).trans hm1)
          clear hr1 hm1
          go_wp2_with fail
          go_roundw
          case rel => exact ⟨_, _, _, _, _, _, _, _, _, _, _, _, _, _, _, _, _, _, _, _, _, _, _, _, _, _, _, _, ⟨k, _, by go_num, by omega, HR1.out, HGO.out, HM1.out⟩, rfl⟩
          case measure => simp [intOf]
        | zero =>
          have h := HO2.out
          rw [show Sort.heapPop Sort.ltInt a 0 f = f from rfl] at h
          subst h
          go_wp2
          go_end0
          exact ⟨rfl, HRF.out, HM2.out⟩
end Go.Proofs.Ytmgkdlkjcncniaa
