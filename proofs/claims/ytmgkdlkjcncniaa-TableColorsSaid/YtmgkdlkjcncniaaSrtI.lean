/- The library's short trial of an insertion sort at 32-bit numbers. -/
import Derived.Test.YtmgkdlkjcncniaaSrtB
import Derived.IntWalk
import Derived.Deep.CutBlock
namespace Go.Proofs.Ytmgkdlkjcncniaa
open Go.RowKit
open Go.Proofs.YtmgkdlkjcncniaaW.PrintWords

theorem ss_go {d : Array Int} {b i : Nat} (h : i < b) (hl : Sort.ltInt d[i]! d[i - 1]! = false) : Sort.scanSorted Sort.ltInt d b i = Sort.scanSorted Sort.ltInt d b (i + 1) := by
  conv => lhs; rw [Sort.scanSorted]
  rw [if_pos (by simp [h, hl])]
theorem ss_stop {d : Array Int} {b i : Nat} (h : b ≤ i ∨ Sort.ltInt d[i]! d[i - 1]! = true) : Sort.scanSorted Sort.ltInt d b i = i := by
  rw [Sort.scanSorted, if_neg]
  rcases h with h | h
  · simp; intro h'; omega
  · simp [h]
theorem ss_in (d : Array Int) (b i : Nat) (h : i ≤ b) : i ≤ Sort.scanSorted Sort.ltInt d b i ∧ Sort.scanSorted Sort.ltInt d b i ≤ b := by
  by_cases hh : i < b ∧ Sort.ltInt d[i]! d[i - 1]! = false
  · rw [ss_go hh.1 hh.2]
    have := ss_in d b (i + 1) (by omega)
    omega
  · rw [ss_stop (by by_cases h1 : i < b; right; simpa [h1] using hh; left; omega)]
    omega
termination_by b - i
decreasing_by omega
theorem shd_go {d : Array Int} {j : Nat} (hl : Sort.ltInt d[j + 1]! d[j]! = true) : Sort.shiftDown Sort.ltInt (j + 1) d = Sort.shiftDown Sort.ltInt j (Sort.swp d (j + 1) j) := by
  rw [Sort.shiftDown, if_neg (by simp [hl])]
theorem shd_stop {d : Array Int} {j : Nat} (hl : Sort.ltInt d[j + 1]! d[j]! = false) : Sort.shiftDown Sort.ltInt (j + 1) d = d := by
  rw [Sort.shiftDown, if_pos (by simp [hl])]
theorem shu_go {d : Array Int} {b j : Nat} (h : j + 1 < b) (hl : Sort.ltInt d[j + 1]! d[j]! = true) : Sort.shiftUp Sort.ltInt b (j + 1) d = Sort.shiftUp Sort.ltInt b (j + 1 + 1) (Sort.swp d (j + 1) j) := by
  conv => lhs; rw [Sort.shiftUp]
  rw [if_pos h, Nat.add_sub_cancel, if_neg (by simp [hl])]
theorem shu_stop {d : Array Int} {b j : Nat} (h : b ≤ j + 1 ∨ Sort.ltInt d[j + 1]! d[j]! = false) : Sort.shiftUp Sort.ltInt b (j + 1) d = d := by
  rw [Sort.shiftUp]
  rcases h with h | h
  · rw [if_neg (by omega)]
  · split
    · rw [Nat.add_sub_cancel, if_pos (by simp [h])]
    · rfl
theorem pi_eq {d e1 e2 e3 : Array Int} {a b s i I : Nat} (hI : Sort.scanSorted Sort.ltInt d b i = I) (h1 : Sort.swp d I (I - 1) = e1) (h2 : (if I - a ≥ 2 then Sort.shiftDown Sort.ltInt (I - 1) e1 else e1) = e2) (h3 : (if b - I ≥ 2 then Sort.shiftUp Sort.ltInt b (I + 1) e2 else e2) = e3) :
    Sort.partialIns Sort.ltInt a b (s + 1) i d = if I = b then (d, true) else if b - a < 50 then (d, false) else Sort.partialIns Sort.ltInt a b s I e3 := by
  subst hI h1 h2 h3; rfl

set_option maxRecDepth 100000 in
set_option maxHeartbeats 8000000 in
theorem partialU (base g n cap a b : Nat) (d : Array Int) (w : World) (hn : n ≤ 1152921504606846975) (hab : a < b) (hb : b ≤ n) (H : RowU w base g n cap d) :
    Calls Try.prog 47 #[.slice (some ⟨g, 0, none⟩) n cap, .int .i64 a, .int .i64 b] w
      fun e w' => e = .returned (.bool (Sort.partialInsertionSort Sort.ltInt d a b).2) ∧ RowU w' base g n cap (Sort.partialInsertionSort Sort.ltInt d a b).1 ∧ Mods [g] w w' := by
  have HR := Lib.hid H
  obtain ⟨R, hR⟩ : ∃ R, Sort.partialInsertionSort Sort.ltInt d a b = R := ⟨_, rfl⟩
  rw [hR]
  have hR : Sort.partialIns Sort.ltInt a b 5 (a + 1) d = R := by rw [← hR]; rfl
  have HPI := Lib.hid hR
  obtain ⟨l, hl⟩ : ∃ l, b - a = l := ⟨_, rfl⟩
  have hl' : (b : Int) - (a : Int) = (l : Int) := by omega
  have hbl : l ≤ n := by omega
  have HL := Lib.hid hl
  clear H hR hl
  go_enter Try.func47, Try.ntmps47
  go_wp2
  go_loopw [7, 8, 9, 10] (fun vi vs _ _ wr => ∃ (s i : Nat) (e : Array Int), vs = .int .i64 (5 - (s : Int)) ∧ vi = .int .i64 i ∧ s ≤ 5 ∧ a + 1 ≤ i ∧ i ≤ b ∧ Hid (RowU wr base g n cap e) ∧ Hid (Sort.partialIns Sort.ltInt a b s i e = R) ∧ Hid (Mods [g] w wr)) (fun _ vs _ _ _ => (5 - intOf vs).toNat)
  case atStart => exact ⟨5, a + 1, d, rfl, by go_num, by omega, by omega, by omega, HR.out, HPI.out, Mods.refl _ _⟩
  case round =>
    obtain ⟨s, i0, e, rfl, rfl, hs5, hi1, hi2, HRE, HPE, HME⟩ := hrel
    clear HR HPI
    obtain ⟨W0, hW0⟩ : ∃ W0 : World, W0 = wr := ⟨_, rfl⟩
    subst hW0
    cases s with
    | zero =>
      have hr := HPE.out
      rw [show Sort.partialIns Sort.ltInt a b 0 i0 e = (e, false) from rfl] at hr
      subst hr
      go_wp2
      go_ret
      exact ⟨rfl, HRE.out, HME.out⟩
    | succ s =>
      have hsv : (5 : Int) - ((s + 1 : Nat) : Int) = 4 - (s : Int) := by omega
      rw [hsv]
      have hds : decide ((4 : Int) - (s : Int) < 5) = true := by simp; omega
      have hds2 : (4 : Int) - (s : Int) + 1 = 5 - (s : Int) := by omega
      obtain ⟨I, hI⟩ : ∃ I, Sort.scanSorted Sort.ltInt e b i0 = I := ⟨_, rfl⟩
      obtain ⟨e1, h1⟩ : ∃ e1, Sort.swp e I (I - 1) = e1 := ⟨_, rfl⟩
      obtain ⟨e2, h2⟩ : ∃ e2, (if I - a ≥ 2 then Sort.shiftDown Sort.ltInt (I - 1) e1 else e1) = e2 := ⟨_, rfl⟩
      obtain ⟨e3, h3⟩ : ∃ e3, (if b - I ≥ 2 then Sort.shiftUp Sort.ltInt b (I + 1) e2 else e2) = e3 := ⟨_, rfl⟩
      have hpi := pi_eq (a := a) (s := s) hI h1 h2 h3
      rw [HPE.out] at hpi
      have q := ss_in e b i0 hi2
      rw [hI] at q
      obtain ⟨q1, q2⟩ := q
      have HPI := Lib.hid hpi; have HI := Lib.hid hI; have H1 := Lib.hid h1; have H2 := Lib.hid h2; have H3 := Lib.hid h3
      clear hpi hI h1 h2 h3 HPE hsv
      go_upto_block 2 with fail
      go_cut [7] from 13 to 132 (fun t wx => t = .int .i64 I ∧ Hid (RowU wx base g n cap e) ∧ Hid (Mods [g] w wx))
      case first =>
        go_wp2_with fail
        go_loopw [7] (fun vi wr => ∃ i : Nat, vi = .int .i64 i ∧ a + 1 ≤ i ∧ i ≤ b ∧ Hid (RowU wr base g n cap e) ∧ Hid (Sort.scanSorted Sort.ltInt e b i = I) ∧ Hid (Mods [g] w wr)) (fun vi _ => b - (intOf vi).toNat)
        case atStart => exact ⟨i0, rfl, hi1, hi2, HRE.out, HI.out, HME.out⟩
        case round =>
          obtain ⟨i, rfl, hai, hib, HR, HS, HM⟩ := hrel
          by_cases hij : i < b
          · obtain ⟨i, rfl⟩ : ∃ i', i = i' + 1 := ⟨i - 1, by omega⟩
            have hd : decide ((i : Int) + 1 < (b : Int)) = true := by simp; omega
            have hin : (i : Int) + 1 < n := by omega
            have hin' : (i : Int) < n := by omega
            obtain ⟨k1, f1⟩ := HR.out.at_ (i + 1) (by omega)
            obtain ⟨k2, f2⟩ := HR.out.at_ i (by omega)
            have hgo := ss_go (d := e) hij
            have hst := fun h => ss_stop (d := e) (b := b) (i := i + 1) (.inr h)
            rw [Nat.add_sub_cancel] at hgo hst
            have HGO := Lib.hid hgo; have HST := Lib.hid hst
            clear hgo hst
            generalize e[i + 1]! = u at *
            generalize e[i]! = v at *
            go_wp2
            go_quiet (first | (go_at_call 48; first | refine Calls.quiet_of_same (less_any _ _ _) | refine quiet_two (less_any _ _ _)))
            generalize hl : Sort.ltInt u v = lb at *
            cases lb with
            | false =>
              go_wp2
              go_roundw
              case rel => first | exact ⟨i + 1 + 1, by go_num, by omega, by omega, HR.out.drewN _, (HGO.out (by first | rfl | trivial)).symm.trans HS.out, HM.out.drewN _⟩ | ((repeat apply Exists.intro); exact ⟨⟨i + 1 + 1, by go_num, by omega, by omega, HR.out.drewN _, (HGO.out (by first | rfl | trivial)).symm.trans HS.out, HM.out.drewN _⟩, rfl⟩) | fail
              case measure => simp [intOf]; omega
            | true =>
              have e' : I = i + 1 := by rw [← HS.out]; exact HST.out (by first | rfl | trivial)
              have h1 := HR.out.drewN; have h2 := HM.out.drewN
              clear HR HM HS HGO HST
              go_wp2
              go_meet
              exact ⟨by rw [e'], h1 _, h2 _⟩
          · have e' : I = i := by rw [← HS.out]; exact ss_stop (.inl (by omega))
            have hd : decide ((i : Int) < (b : Int)) = false := by simp; omega
            have h1 := HR.out.drewN; have h2 := HM.out.drewN
            clear HR HM HS
            go_wp2
            go_quiet (fail)
            go_wp2
            go_meet
            exact ⟨by rw [e'], h1 _, h2 _⟩
      case rest =>
        clear HRE HME
        obtain ⟨rfl, HR, HM⟩ := hcut
        by_cases hIb : I = b
        · have hr := HPI.out
          rw [if_pos hIb] at hr
          subst hr
          have hcmp : ((I : Int) == (b : Int)) = true := by simp; omega
          have hIb' : (I : Int) = (b : Int) := by omega
          go_wp2
          go_ret
          exact ⟨rfl, HR.out, HM.out⟩
        · have hcmp : ((I : Int) == (b : Int)) = false := by simp; omega
          have hIb' : ¬ (I : Int) = (b : Int) := by omega
          by_cases h50 : l < 50
          · have hr := HPI.out
            rw [if_neg hIb, if_pos (by rw [HL.out]; exact h50)] at hr
            subst hr
            have hd5 : decide ((l : Int) < 50) = true := by simp; omega
            go_wp2
            go_ret
            exact ⟨rfl, HR.out, HM.out⟩
          · have hr := HPI.out
            rw [if_neg hIb, if_neg (by rw [HL.out]; exact h50)] at hr
            have HRT := Lib.hid hr
            clear hr HPI
            have hd5 : decide ((l : Int) < 50) = false := by simp; omega
            obtain ⟨J, hJ⟩ : ∃ J, I = J + 1 := ⟨I - 1, by omega⟩
            have HJ := Lib.hid hJ
            have hJ1 : (I : Int) - 1 = (J : Int) := by omega
            have hIn : (I : Int) < n := by omega
            have hJn : (J : Int) < n := by omega
            obtain ⟨k1, f1⟩ := HR.out.at_ I (by omega)
            obtain ⟨k2, f2⟩ := HR.out.at_ J (by omega)
            obtain ⟨k3, f3⟩ := HR.out.at2 I J (by omega) (by omega)
            have hsw := HR.out.drew.swp I J
            have h1 := H1.out
            rw [show I - 1 = J by omega] at h1
            rw [h1] at hsw
            have HSW := Lib.hid hsw
            clear hsw h1 hJ
            generalize e[I]! = x at *
            generalize e[J]! = y at *
            obtain ⟨m, hm⟩ : ∃ m, I - a = m := ⟨_, rfl⟩
            obtain ⟨k, hk⟩ : ∃ k, b - I = k := ⟨_, rfl⟩
            have hm' : (I : Int) - (a : Int) = (m : Int) := by omega
            have hk' : (b : Int) - (I : Int) = (k : Int) := by omega
            have hmb : m ≤ n := by omega
            have hkb : k ≤ n := by omega
            have HMD := Lib.hid hm; have HKD := Lib.hid hk
            clear hm hk
            go_wp2
            go_region
            all_goals go_upto_if 61 with fail
            have HM1 := Lib.hid ((((HM.out.drew).setCell (p := ⟨g, I, none⟩) (.inl (by simp)) (.int .u32 y)).setCell (p := ⟨g, J, none⟩) (.inl (by simp)) (.int .u32 x)))
            clear HM HR k1 k2 k3 f1 f2 f3
            go_cut [9] from 13 to 132 (fun _ wx => Hid (RowU wx base g n cap e2) ∧ Hid (Mods [g] w wx))
            case first =>
              by_cases hm2 : 2 ≤ m
              · have hdm : decide ((2 : Int) ≤ (m : Int)) = true := by simp; omega
                try rw [hdm]
                have h2 := H2.out
                rw [if_pos (by rw [HMD.out]; exact hm2)] at h2
                have HE2 := Lib.hid h2
                clear h2
                go_wp2
                go_loopw [9] (fun vj wr => ∃ (j : Nat) (f : Array Int), vj = .int .i64 j ∧ j < n ∧ Hid (RowU wr base g n cap f) ∧ Hid (Sort.shiftDown Sort.ltInt j f = e2) ∧ Hid (Mods [g] w wr)) (fun vj _ => (intOf vj).toNat)
                case atStart => exact ⟨J, e1, rfl, by omega, HSW.out, by rw [← HE2.out, HJ.out]; rfl, HM1.out⟩
                case round =>
                  obtain ⟨j, f, rfl, hjn, HRF, HO, HMF⟩ := hrel
                  cases j with
                  | zero =>
                    have hr := HO.out
                    rw [show Sort.shiftDown Sort.ltInt 0 f = f from rfl] at hr
                    have h1 := HRF.out; have h2 := HMF.out
                    rw [hr] at h1
                    clear HRF HMF HO hr
                    go_wp2
                    go_meet
                    exact ⟨h1, h2⟩
                  | succ j =>
                    have hj0 : (j : Int) + 1 < n := by omega
                    have hj1 : (j : Int) < n := by omega
                    have hjd : decide ((1 : Int) ≤ (j : Int) + 1) = true := by simp; omega
                    obtain ⟨k1, f1⟩ := HRF.out.at_ (j + 1) (by omega)
                    obtain ⟨k2, f2⟩ := HRF.out.at_ j (by omega)
                    have hsw := fun m => (HRF.out.drewN m).swp (j + 1) j
                    have hgo := shd_go (d := f) (j := j)
                    have hst := shd_stop (d := f) (j := j)
                    have HSW2 := Lib.hid hsw; have HGO := Lib.hid hgo; have HST := Lib.hid hst
                    clear hsw hgo hst
                    generalize f[j + 1]! = u at *
                    generalize f[j]! = v at *
                    go_wp2
                    go_quiet (first | (go_at_call 48; first | refine Calls.quiet_of_same (less_any _ _ _) | refine quiet_two (less_any _ _ _)))
                    generalize hl : Sort.ltInt u v = lb at *
                    cases lb with
                    | true =>
                      go_wp2
                      go_region
                      all_goals go_wp2
                      go_roundw
                      case rel => first | exact ⟨j, _, by go_num, by omega, HSW2.out _, (HGO.out (by first | rfl | trivial)).symm.trans HO.out, ((HMF.out.drewN _).setCell (.inl (by simp)) _).setCell (.inl (by simp)) _⟩ | ((repeat apply Exists.intro); exact ⟨⟨j, _, by go_num, by omega, HSW2.out _, (HGO.out (by first | rfl | trivial)).symm.trans HO.out, ((HMF.out.drewN _).setCell (.inl (by simp)) _).setCell (.inl (by simp)) _⟩, rfl⟩) | fail
                      case measure => simp [intOf]
                    | false =>
                      have hr := (HST.out (by first | rfl | trivial)).symm.trans HO.out
                      have h1 := HRF.out.drewN; have h2 := HMF.out.drewN
                      rw [hr] at h1
                      clear HRF HMF HO hr
                      go_wp2
                      go_meet
                      exact ⟨h1 _, h2 _⟩
              · have hdm : decide ((2 : Int) ≤ (m : Int)) = false := by simp; omega
                have h2 := H2.out
                rw [if_neg (by rw [HMD.out]; exact hm2)] at h2
                have h1 := HSW.out; have h3 := HM1.out
                rw [h2] at h1
                clear HSW HM1 h2
                go_wp2
                go_meet
                exact ⟨h1, h3⟩
            case rest =>
              obtain ⟨HR2, HM2⟩ := hcut
              clear HSW HM1
              by_cases hm2 : 2 ≤ k
              · have hdm : decide ((2 : Int) ≤ (k : Int)) = true := by simp; omega
                try rw [hdm]
                have h3 := H3.out
                rw [if_pos (by rw [HKD.out]; exact hm2)] at h3
                have HE3 := Lib.hid h3
                clear h3
                go_wp2
                go_loopw [10] (fun vj wr => ∃ (j : Nat) (f : Array Int), vj = .int .i64 ((j : Int) + 1) ∧ j < n ∧ Hid (RowU wr base g n cap f) ∧ Hid (Sort.shiftUp Sort.ltInt b (j + 1) f = e3) ∧ Hid (Mods [g] w wr)) (fun vj _ => n + 1 - (intOf vj).toNat)
                case atStart => exact ⟨I, e2, rfl, by omega, HR2.out, HE3.out, HM2.out⟩
                case round =>
                  obtain ⟨j, f, rfl, hjn, HRF, HO, HMF⟩ := hrel
                  by_cases hjb : j + 1 < b
                  · have hj0 : (j : Int) + 1 < n := by omega
                    have hj1 : (j : Int) < n := by omega
                    have hjd : decide ((j : Int) + 1 < (b : Int)) = true := by simp; omega
                    have hjb' : (j : Int) + 1 < (b : Int) := by omega
                    obtain ⟨k1, f1⟩ := HRF.out.at_ (j + 1) (by omega)
                    obtain ⟨k2, f2⟩ := HRF.out.at_ j (by omega)
                    have hsw := fun m => (HRF.out.drewN m).swp (j + 1) j
                    have hgo := shu_go (d := f) (b := b) (j := j) hjb
                    have hst := fun h => shu_stop (d := f) (b := b) (j := j) (.inr h)
                    have HSW2 := Lib.hid hsw; have HGO := Lib.hid hgo; have HST := Lib.hid hst
                    clear hsw hgo hst
                    generalize f[j + 1]! = u at *
                    generalize f[j]! = v at *
                    go_wp2
                    go_quiet (first | (go_at_call 48; first | refine Calls.quiet_of_same (less_any _ _ _) | refine quiet_two (less_any _ _ _)))
                    generalize hl : Sort.ltInt u v = lb at *
                    cases lb with
                    | true =>
                      go_wp2
                      go_region
                      all_goals go_wp2
                      go_roundw
                      case rel => first | exact ⟨j + 1, _, by go_num, by omega, HSW2.out _, (HGO.out (by first | rfl | trivial)).symm.trans HO.out, ((HMF.out.drewN _).setCell (.inl (by simp)) _).setCell (.inl (by simp)) _⟩ | ((repeat apply Exists.intro); exact ⟨⟨j + 1, _, by go_num, by omega, HSW2.out _, (HGO.out (by first | rfl | trivial)).symm.trans HO.out, ((HMF.out.drewN _).setCell (.inl (by simp)) _).setCell (.inl (by simp)) _⟩, rfl⟩) | fail
                      case measure => simp [intOf]; omega
                    | false =>
                      have hr := (HST.out (by first | rfl | trivial)).symm.trans HO.out
                      have h1 := HRF.out.drewN; have h2 := HMF.out.drewN
                      rw [hr] at h1
                      clear HRF HMF HO hr
                      go_wp2
                      go_roundw
                      case rel => first | exact ⟨s, I, e3, by go_num, rfl, by omega, by omega, q2, h1 _, HRT.out.symm, h2 _⟩ | ((repeat apply Exists.intro); exact ⟨⟨s, I, e3, by go_num, rfl, by omega, by omega, q2, h1 _, HRT.out.symm, h2 _⟩, rfl⟩) | fail
                      case measure => simp [intOf]; omega
                  · have hjd : decide ((j : Int) + 1 < (b : Int)) = false := by simp; omega
                    have hjb' : ¬ (j : Int) + 1 < (b : Int) := by omega
                    have hr := (shu_stop (d := f) (b := b) (j := j) (.inl (by omega))).symm.trans HO.out
                    have h1 := HRF.out; have h2 := HMF.out
                    rw [hr] at h1
                    clear HRF HMF HO hr
                    go_wp2
                    go_roundw
                    case rel => first | exact ⟨s, I, e3, by go_num, rfl, by omega, by omega, q2, h1, HRT.out.symm, h2⟩ | ((repeat apply Exists.intro); exact ⟨⟨s, I, e3, by go_num, rfl, by omega, by omega, q2, h1, HRT.out.symm, h2⟩, rfl⟩) | fail
                    case measure => simp [intOf]; omega
              · have hdm : decide ((2 : Int) ≤ (k : Int)) = false := by simp; omega
                have h3 := H3.out
                rw [if_neg (by rw [HKD.out]; exact hm2)] at h3
                have h1 := HR2.out; have h2 := HM2.out
                rw [h3] at h1
                clear HR2 HM2 h3
                go_wp2
                go_roundw
                case rel => first | exact ⟨s, I, e3, by go_num, rfl, by omega, by omega, q2, h1, HRT.out.symm, h2⟩ | ((repeat apply Exists.intro); exact ⟨⟨s, I, e3, by go_num, rfl, by omega, by omega, q2, h1, HRT.out.symm, h2⟩, rfl⟩) | fail
                case measure => simp [intOf]; omega
end Go.Proofs.Ytmgkdlkjcncniaa
