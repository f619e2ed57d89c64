/- The library's partition of equal ones at 32-bit numbers. -/
import Derived.Test.YtmgkdlkjcncniaaSrtP
import Derived.Deep.CutBlock
namespace Go.Proofs.Ytmgkdlkjcncniaa
open Go.RowKit
open Go.Proofs.YtmgkdlkjcncniaaW.PrintWords

set_option maxRecDepth 100000 in
set_option maxHeartbeats 8000000 in
theorem partitionEqU (base g n cap a b pv : Nat) (d : Array Int) (w : World) (hn : n ≤ 1152921504606846975) (ha : a ≤ pv) (hp : pv < b) (hb : b ≤ n) (H : RowU w base g n cap d) :
    Calls Try.prog 49 #[.slice (some ⟨g, 0, none⟩) n cap, .int .i64 a, .int .i64 b, .int .i64 pv] w
      fun e w' => e = .returned (.int .i64 (Sort.partitionEqual Sort.ltInt d a b pv).1) ∧ RowU w' base g n cap (Sort.partitionEqual Sort.ltInt d a b pv).2 ∧ Mods [g] w w' := by
  obtain ⟨c, hc⟩ : ∃ c, b = c + 1 := ⟨b - 1, by omega⟩
  obtain ⟨PL, hPL⟩ : ∃ PL, Sort.partitionEqual Sort.ltInt d a b pv = PL := ⟨_, rfl⟩
  rw [hPL]
  have hPL : Sort.partEqLoop Sort.ltInt a (a + 1) c (Sort.swp d a pv) = PL := by rw [← hPL, hc]; rfl
  have hc' : (b : Int) - 1 = (c : Int) := by omega
  obtain ⟨k1, f1⟩ := H.at_ a (by omega)
  obtain ⟨k2, f2⟩ := H.at_ pv (by omega)
  obtain ⟨k3, f3⟩ := H.at2 a pv (by omega) (by omega)
  have hsw := H.drew.swp a pv
  have HSW := Lib.hid hsw; have HPL := Lib.hid hPL
  have hcn : (c : Int) < n := by omega
  have han : (a : Int) < n := by omega
  have hpn : (pv : Int) < n := by omega
  clear hsw hPL H hc
  generalize d[a]! = x at *
  generalize d[pv]! = y at *
  go_enter Try.func49, Try.ntmps49
  go_wp2
  go_region
  all_goals go_wp2
  have HM1 := Lib.hid (((Mods.refl [g] w).drew.setCell (p := ⟨g, a, none⟩) (.inl (by simp)) (.int .u32 y)).setCell (p := ⟨g, pv, none⟩) (.inl (by simp)) (.int .u32 x))
  clear k1 f1 k2 f2 k3 f3
  go_loopw [9, 10] (fun vi vj wr => ∃ (i j : Nat) (e : Array Int), vi = .int .i64 i ∧ vj = .int .i64 j ∧ a + 1 ≤ i ∧ i ≤ c + 1 ∧ a ≤ j ∧ j ≤ c ∧ Hid (RowU wr base g n cap e) ∧ Hid (Sort.partEqLoop Sort.ltInt a i j e = PL) ∧ Hid (Mods [g] w wr)) (fun _ vj _ => (intOf vj).toNat)
  case atStart => exact ⟨a + 1, c, _, by go_num, by go_num, by omega, by omega, by omega, by omega, HSW.out, HPL.out, HM1.out⟩
  case round =>
    obtain ⟨i0, j0, e, rfl, rfl, hi1, hi2, hj1', hj2', HRE, HPE, HME⟩ := hrel
    clear HSW HM1 HPL
    obtain ⟨I2, hI2⟩ : ∃ I2, Sort.scanUp (fun x => !Sort.ltInt e[a]! x) e j0 i0 = I2 := ⟨_, rfl⟩
    obtain ⟨J2, hJ2⟩ : ∃ J2, Sort.scanDown (fun x => Sort.ltInt e[a]! x) e I2 j0 = J2 := ⟨_, rfl⟩
    have hpl := pe_eq (a := a) hI2 hJ2
    rw [HPE.out] at hpl
    have q1 : i0 ≤ I2 := hI2 ▸ up_ge _ e j0 i0
    have q2 : I2 ≤ c + 1 := hI2 ▸ up_le _ e j0 i0 (c + 1) (by omega) (by omega)
    have q3 : a ≤ J2 := hJ2 ▸ down_ge _ e I2 a (by omega) j0 (by omega)
    have q4 : J2 ≤ j0 := hJ2 ▸ down_le _ e I2 j0
    have HPL := Lib.hid hpl; have HI := Lib.hid hI2; have HJ := Lib.hid hJ2
    clear hpl hI2 hJ2 HPE
    obtain ⟨W0, hW0⟩ : ∃ W0 : World, W0 = wr := ⟨_, rfl⟩
    subst hW0
    go_upto_block 2 with fail
    go_cut [9] from 29 to 82 (fun t wx => t = .int .i64 I2 ∧ Hid (RowU wx base g n cap e) ∧ Hid (Mods [g] w wx))
    case first =>
      go_wp2_with fail
      go_loopw [9] (fun vi wr => ∃ i : Nat, vi = .int .i64 i ∧ a + 1 ≤ i ∧ Hid (RowU wr base g n cap e) ∧ Hid (Sort.scanUp (fun x => !Sort.ltInt e[a]! x) e j0 i = I2) ∧ Hid (Mods [g] w wr)) (fun vi _ => j0 + 1 - (intOf vi).toNat)
      case atStart => exact ⟨i0, by go_num, by omega, HRE.out, HI.out, HME.out⟩
      case round =>
        obtain ⟨i, rfl, hai, HR, HS, HM⟩ := hrel
        by_cases hij : i ≤ j0
        · have hd : decide ((i : Int) ≤ (j0 : Int)) = true := by simp; omega
          have hin : (i : Int) < n := by omega
          obtain ⟨k1, f1⟩ := HR.out.at_ i (by omega)
          obtain ⟨k2, f2⟩ := HR.out.at_ a (by omega)
          have hgo := up_go (fun x => !Sort.ltInt e[a]! x) (d := e) hij
          have hst := fun h => up_stop (fun x => !Sort.ltInt e[a]! x) (d := e) (i := i) (j := j0) (.inr h)
          have HGO := Lib.hid hgo; have HST := Lib.hid hst
          clear hgo hst
          obtain ⟨u, hu⟩ : ∃ u, e[a]! = u := ⟨_, rfl⟩
          obtain ⟨v, hv⟩ : ∃ v, e[i]! = v := ⟨_, rfl⟩
          rw [hv] at k1
          rw [hu] at k2
          have HUV := Lib.hid (show Sort.ltInt u v = Sort.ltInt e[a]! e[i]! by rw [hu, hv])
          clear hu hv
          go_wp2
          go_quiet (first | (go_at_call 48; first | refine Calls.quiet_of_same (less_any _ _ _) | refine quiet_two (less_any _ _ _)))
          generalize hl : Sort.ltInt u v = lb at *
          cases lb with
          | false =>
            go_wp2
            go_roundw
            case rel => first | exact ⟨i + 1, by go_num, by omega, HR.out.drewN _, (HGO.out (by first | exact HUV.out.symm | (rw [← HUV.out]; rfl))).symm.trans HS.out, HM.out.drewN _⟩ | ((repeat apply Exists.intro); exact ⟨⟨i + 1, by go_num, by omega, HR.out.drewN _, (HGO.out (by first | exact HUV.out.symm | (rw [← HUV.out]; rfl))).symm.trans HS.out, HM.out.drewN _⟩, rfl⟩) | fail
            case measure => simp [intOf]; omega
          | true =>
            have e : I2 = i := by rw [← HS.out]; exact HST.out (by first | exact HUV.out.symm | (rw [← HUV.out]; rfl))
            have h1 := HR.out.drewN; have h2 := HM.out.drewN
            clear HR HM HS HGO HST
            rw [← e]
            clear e
            go_wp2
            go_meet
            exact ⟨rfl, h1 _, h2 _⟩
        · have e : I2 = i := by rw [← HS.out]; exact up_stop _ (.inl (by omega))
          have hd : decide ((i : Int) ≤ (j0 : Int)) = false := by simp; omega
          have h1 := HR.out.drewN; have h2 := HM.out.drewN
          clear HR HM HS
          go_wp2
          go_quiet (fail)
          go_wp2
          go_meet
          exact ⟨by rw [e], h1 _, h2 _⟩
    case rest =>
      clear HRE HME
      obtain ⟨rfl, HR0, HM0⟩ := hcut
      go_upto_block 4 with fail
      go_cut [10] from 29 to 82 (fun t wx => t = .int .i64 J2 ∧ Hid (RowU wx base g n cap e) ∧ Hid (Mods [g] w wx))
      case first =>
        go_wp2_with fail
        go_loopw [10] (fun vj wr => ∃ j : Nat, vj = .int .i64 j ∧ a ≤ j ∧ j ≤ c ∧ Hid (RowU wr base g n cap e) ∧ Hid (Sort.scanDown (fun x => Sort.ltInt e[a]! x) e I2 j = J2) ∧ Hid (Mods [g] w wr)) (fun vj _ => (intOf vj).toNat)
        case atStart => exact ⟨j0, by go_num, by omega, by omega, HR0.out, HJ.out, HM0.out⟩
        case round =>
          obtain ⟨j, rfl, haj, hjc, HR, HS, HM⟩ := hrel
          by_cases hij : I2 ≤ j
          · obtain ⟨j, rfl⟩ : ∃ j', j = j' + 1 := ⟨j - 1, by omega⟩
            have hd : decide ((I2 : Int) ≤ (j : Int) + 1) = true := by simp; omega
            have hin : (j : Int) + 1 < n := by omega
            obtain ⟨k1, f1⟩ := HR.out.at_ (j + 1) (by omega)
            obtain ⟨k2, f2⟩ := HR.out.at_ a (by omega)
            have hgo := down_go (fun x => Sort.ltInt e[a]! x) (d := e) hij
            have hst := fun h => down_stop (fun x => Sort.ltInt e[a]! x) (d := e) (i := I2) (j := j + 1) (.inr h)
            have HGO := Lib.hid hgo; have HST := Lib.hid hst
            clear hgo hst
            obtain ⟨u, hu⟩ : ∃ u, e[a]! = u := ⟨_, rfl⟩
            obtain ⟨v, hv⟩ : ∃ v, e[j + 1]! = v := ⟨_, rfl⟩
            rw [hv] at k1
            rw [hu] at k2
            have HUV := Lib.hid (show Sort.ltInt u v = Sort.ltInt e[a]! e[j + 1]! by rw [hu, hv])
            clear hu hv
            go_wp2
            go_quiet (first | (go_at_call 48; first | refine Calls.quiet_of_same (less_any _ _ _) | refine quiet_two (less_any _ _ _)))
            generalize hl : Sort.ltInt u v = lb at *
            cases lb with
            | true =>
              go_wp2
              go_roundw
              case rel => first | exact ⟨j, by go_num, by omega, by omega, HR.out.drewN _, (HGO.out (by first | exact HUV.out.symm | (rw [← HUV.out]; rfl))).symm.trans HS.out, HM.out.drewN _⟩ | ((repeat apply Exists.intro); exact ⟨⟨j, by go_num, by omega, by omega, HR.out.drewN _, (HGO.out (by first | exact HUV.out.symm | (rw [← HUV.out]; rfl))).symm.trans HS.out, HM.out.drewN _⟩, rfl⟩) | fail
              case measure => simp [intOf]
            | false =>
              have e : J2 = j + 1 := by rw [← HS.out]; exact HST.out (by first | exact HUV.out.symm | (rw [← HUV.out]; rfl))
              have h1 := HR.out.drewN; have h2 := HM.out.drewN
              clear HR HM HS HGO HST
              rw [← e]
              clear e
              go_wp2
              go_meet
              exact ⟨rfl, h1 _, h2 _⟩
          · have e : J2 = j := by rw [← HS.out]; exact down_stop _ (.inl (by omega))
            have hd : decide ((I2 : Int) ≤ (j : Int)) = false := by simp; omega
            have h1 := HR.out.drewN; have h2 := HM.out.drewN
            clear HR HM HS
            go_wp2
            go_quiet (fail)
            go_wp2
            go_meet
            exact ⟨by rw [e], h1 _, h2 _⟩
      case rest =>
        clear HR0 HM0
        obtain ⟨rfl, HR, HM⟩ := hcut
        have hJn : (J2 : Int) < n := by omega
        by_cases hIJ : J2 < I2
        · have hcmp : (J2 : Int) < (I2 : Int) := by omega
          have hr := HPL.out
          rw [if_pos (show I2 > J2 from hIJ)] at hr
          subst hr
          go_wp2
          go_ret
          exact ⟨rfl, HR.out, HM.out⟩
        · have hcmp : ¬ (J2 : Int) < (I2 : Int) := by omega
          have hIn : (I2 : Int) < n := by omega
          have hr := HPL.out
          rw [if_neg (show ¬ I2 > J2 from hIJ)] at hr
          have HRT := Lib.hid hr
          clear hr HPL
          obtain ⟨j3, hj3⟩ : ∃ j3, J2 = j3 + 1 := ⟨J2 - 1, by omega⟩
          have hj4 : (J2 : Int) - 1 = (j3 : Int) := by omega
          have HJ3 := Lib.hid hj3
          clear hj3
          obtain ⟨k1, f1⟩ := HR.out.at_ I2 (by omega)
          obtain ⟨k2, f2⟩ := HR.out.at_ J2 (by omega)
          obtain ⟨k3, f3⟩ := HR.out.at2 I2 J2 (by omega) (by omega)
          have hsw := HR.out.drew.swp I2 J2
          have HSW := Lib.hid hsw
          clear hsw
          generalize e[I2]! = x at *
          generalize e[J2]! = y at *
          go_wp2
          go_region
          all_goals go_wp2
          go_roundw
          case rel => first | exact ⟨I2 + 1, j3, _, by go_num, by go_num, by omega, by omega, by have := HJ3.out; omega, by have := HJ3.out; omega, HSW.out, by show _ = PL; rw [HRT.out, HJ3.out, Nat.add_sub_cancel], (((HM.out.drew).setCell (.inl (by simp)) _).setCell (.inl (by simp)) _)⟩ | ((repeat apply Exists.intro); exact ⟨⟨I2 + 1, j3, _, by go_num, by go_num, by omega, by omega, by have := HJ3.out; omega, by have := HJ3.out; omega, HSW.out, by show _ = PL; rw [HRT.out, HJ3.out, Nat.add_sub_cancel], (((HM.out.drew).setCell (.inl (by simp)) _).setCell (.inl (by simp)) _)⟩, rfl⟩) | fail
          case measure => have := HJ3.out; simp [intOf]; omega
end Go.Proofs.Ytmgkdlkjcncniaa
