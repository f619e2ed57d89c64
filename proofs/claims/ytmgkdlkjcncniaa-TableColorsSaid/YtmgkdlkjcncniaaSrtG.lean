/- The library's partition at 32-bit numbers. -/
import Derived.Test.YtmgkdlkjcncniaaSrtP
import Derived.Deep.CutBlock
namespace Go.Proofs.Ytmgkdlkjcncniaa
open Go.RowKit
open Go.Proofs.YtmgkdlkjcncniaaW.PrintWords

set_option maxRecDepth 100000 in
set_option maxHeartbeats 8000000 in
theorem partitionU (base g n cap a b pv : Nat) (d : Array Int) (w : World) (hn : n ≤ 1152921504606846975) (ha : a ≤ pv) (hp : pv < b) (hb : b ≤ n) (H : RowU w base g n cap d) :
    Calls Try.prog 50 #[.slice (some ⟨g, 0, none⟩) n cap, .int .i64 a, .int .i64 b, .int .i64 pv] w
      fun e w' => e = .returned (.tuple #[.int .i64 (Sort.partition Sort.ltInt d a b pv).1, .bool (Sort.partition Sort.ltInt d a b pv).2.1]) ∧ RowU w' base g n cap (Sort.partition Sort.ltInt d a b pv).2.2 ∧ Mods [g] w w' := by
  obtain ⟨c, hc⟩ : ∃ c, b = c + 1 := ⟨b - 1, by omega⟩
  obtain ⟨d1, h1⟩ : ∃ d1, Sort.swp d a pv = d1 := ⟨_, rfl⟩
  obtain ⟨I, hI⟩ : ∃ I, Sort.scanUp (fun x => Sort.ltInt x d1[a]!) d1 c (a + 1) = I := ⟨_, rfl⟩
  obtain ⟨J, hJ⟩ : ∃ J, Sort.scanDown (fun x => !Sort.ltInt x d1[a]!) d1 I c = J := ⟨_, rfl⟩
  have hpt := pt_eq (b := b) (pv := pv) (I := I) (J := J) h1 (by rw [hc, Nat.add_sub_cancel]; exact hI) (by rw [hc, Nat.add_sub_cancel]; exact hJ)
  generalize Sort.partition Sort.ltInt d a b pv = R at *
  have i1 : a + 1 ≤ I := hI ▸ up_ge _ d1 c (a + 1)
  have i2 : I ≤ c + 1 := hI ▸ up_le _ d1 c (a + 1) (c + 1) (by omega) (Nat.le_refl _)
  have j1 : a ≤ J := hJ ▸ down_ge _ d1 I a i1 c (by omega)
  have j2 : J ≤ c := hJ ▸ down_le _ d1 I c
  have hc' : (b : Int) - 1 = (c : Int) := by omega
  obtain ⟨k1, f1⟩ := H.at_ a (by omega)
  obtain ⟨k2, f2⟩ := H.at_ pv (by omega)
  obtain ⟨k3, f3⟩ := H.at2 a pv (by omega) (by omega)
  have hsw := H.drew.swp a pv
  rw [h1] at hsw
  have HSW := Lib.hid hsw; have HI := Lib.hid hI; have HJ := Lib.hid hJ; have HPT := Lib.hid hpt
  have hcn : (c : Int) < n := by omega
  have han : (a : Int) < n := by omega
  have hpn : (pv : Int) < n := by omega
  clear hsw hI hJ hpt H h1 hc
  generalize d[a]! = x at *
  generalize d[pv]! = y at *
  go_enter Try.func50, Try.ntmps50
  go_wp2
  go_region
  all_goals skip
  have HM0 := Lib.hid (((Mods.refl [g] w).drew.setCell (p := ⟨g, a, none⟩) (.inl (by simp)) (.int .u32 y)).setCell (p := ⟨g, pv, none⟩) (.inl (by simp)) (.int .u32 x))
  clear k1 f1 k2 f2 k3 f3
  go_upto_block 0 with fail
  go_cut [10] from 30 to 45 (fun t wx => t = .int .i64 I ∧ Hid (RowU wx base g n cap d1) ∧ Hid (Mods [g] w wx))
  case first =>
    go_wp2_with fail
    go_loopw [10] (fun vi wr => ∃ i : Nat, vi = .int .i64 i ∧ a + 1 ≤ i ∧ Hid (RowU wr base g n cap d1) ∧ Hid (Sort.scanUp (fun x => Sort.ltInt x d1[a]!) d1 c i = I) ∧ Hid (Mods [g] w wr)) (fun vi _ => c + 1 - (intOf vi).toNat)
    case atStart => exact ⟨a + 1, by go_num, by omega, HSW.out, HI.out, HM0.out⟩
    case round =>
      obtain ⟨i, rfl, hai, HR, HS, HM⟩ := hrel
      by_cases hij : i ≤ c
      · have hd : decide ((i : Int) ≤ (c : Int)) = true := by simp; omega
        have hin : (i : Int) < n := by omega
        obtain ⟨k1, f1⟩ := HR.out.at_ i (by omega)
        obtain ⟨k2, f2⟩ := HR.out.at_ a (by omega)
        have hgo := up_go (fun x => Sort.ltInt x d1[a]!) (d := d1) hij
        have hst := fun h => up_stop (fun x => Sort.ltInt x d1[a]!) (d := d1) (i := i) (j := c) (.inr h)
        have HGO := Lib.hid hgo; have HST := Lib.hid hst
        clear hgo hst
        obtain ⟨u, hu⟩ : ∃ u, d1[i]! = u := ⟨_, rfl⟩
        obtain ⟨v, hv⟩ : ∃ v, d1[a]! = v := ⟨_, rfl⟩
        rw [hu] at k1
        rw [hv] at k2
        have HUV := Lib.hid (show Sort.ltInt u v = Sort.ltInt d1[i]! d1[a]! by rw [hu, hv])
        clear hu hv
        go_wp2
        go_quiet (first | (go_at_call 48; first | refine Calls.quiet_of_same (less_any _ _ _) | refine quiet_two (less_any _ _ _)))
        generalize hl : Sort.ltInt u v = lb at *
        cases lb with
        | true =>
          go_wp2
          go_roundw
          case rel => first | exact ⟨i + 1, by go_num, by omega, HR.out.drewN _, (HGO.out (by first | exact HUV.out.symm | (rw [← HUV.out]; rfl))).symm.trans HS.out, HM.out.drewN _⟩ | ((repeat apply Exists.intro); exact ⟨⟨i + 1, by go_num, by omega, HR.out.drewN _, (HGO.out (by first | exact HUV.out.symm | (rw [← HUV.out]; rfl))).symm.trans HS.out, HM.out.drewN _⟩, rfl⟩) | fail
          case measure => simp [intOf]; omega
        | false =>
          have e : I = i := by rw [← HS.out]; exact HST.out (by first | exact HUV.out.symm | (rw [← HUV.out]; rfl))
          have h1 := HR.out.drewN; have h2 := HM.out.drewN
          clear HR HM HS HGO HST
          rw [← e]
          clear e
          go_wp2
          go_meet
          exact ⟨rfl, h1 _, h2 _⟩
      · have e : I = i := by rw [← HS.out]; exact up_stop _ (.inl (by omega))
        have hd : decide ((i : Int) ≤ (c : Int)) = false := by simp; omega
        have h1 := HR.out.drewN; have h2 := HM.out.drewN
        clear HR HM HS
        go_wp2
        go_quiet (fail)
        go_wp2
        go_meet
        exact ⟨by rw [e], h1 _, h2 _⟩
  case rest =>
    clear HSW HM0
    obtain ⟨rfl, HR0, HM0⟩ := hcut
    go_upto_block 2 with fail
    go_cut [11] from 46 to 62 (fun t wx => t = .int .i64 J ∧ Hid (RowU wx base g n cap d1) ∧ Hid (Mods [g] w wx))
    case first =>
      go_wp2_with fail
      go_loopw [11] (fun vj wr => ∃ j : Nat, vj = .int .i64 j ∧ a ≤ j ∧ j ≤ c ∧ Hid (RowU wr base g n cap d1) ∧ Hid (Sort.scanDown (fun x => !Sort.ltInt x d1[a]!) d1 I j = J) ∧ Hid (Mods [g] w wr)) (fun vj _ => (intOf vj).toNat)
      case atStart => exact ⟨c, by go_num, by omega, by omega, HR0.out, HJ.out, HM0.out⟩
      case round =>
        obtain ⟨j, rfl, haj, hjc, HR, HS, HM⟩ := hrel
        by_cases hij : I ≤ j
        · obtain ⟨j, rfl⟩ : ∃ j', j = j' + 1 := ⟨j - 1, by omega⟩
          have hd : decide ((I : Int) ≤ (j : Int) + 1) = true := by simp; omega
          have hin : (j : Int) + 1 < n := by omega
          obtain ⟨k1, f1⟩ := HR.out.at_ (j + 1) (by omega)
          obtain ⟨k2, f2⟩ := HR.out.at_ a (by omega)
          have hgo := down_go (fun x => !Sort.ltInt x d1[a]!) (d := d1) hij
          have hst := fun h => down_stop (fun x => !Sort.ltInt x d1[a]!) (d := d1) (i := I) (j := j + 1) (.inr h)
          have HGO := Lib.hid hgo; have HST := Lib.hid hst
          clear hgo hst
          obtain ⟨u, hu⟩ : ∃ u, d1[j + 1]! = u := ⟨_, rfl⟩
          obtain ⟨v, hv⟩ : ∃ v, d1[a]! = v := ⟨_, rfl⟩
          rw [hu] at k1
          rw [hv] at k2
          have HUV := Lib.hid (show Sort.ltInt u v = Sort.ltInt d1[j + 1]! d1[a]! by rw [hu, hv])
          clear hu hv
          go_wp2
          go_quiet (first | (go_at_call 48; first | refine Calls.quiet_of_same (less_any _ _ _) | refine quiet_two (less_any _ _ _)))
          generalize hl : Sort.ltInt u v = lb at *
          cases lb with
          | false =>
            go_wp2
            go_roundw
            case rel => first | exact ⟨j, by go_num, by omega, by omega, HR.out.drewN _, (HGO.out (by first | exact HUV.out.symm | (rw [← HUV.out]; rfl))).symm.trans HS.out, HM.out.drewN _⟩ | ((repeat apply Exists.intro); exact ⟨⟨j, by go_num, by omega, by omega, HR.out.drewN _, (HGO.out (by first | exact HUV.out.symm | (rw [← HUV.out]; rfl))).symm.trans HS.out, HM.out.drewN _⟩, rfl⟩) | fail
            case measure => simp [intOf]
          | true =>
            have e : J = j + 1 := by rw [← HS.out]; exact HST.out (by first | exact HUV.out.symm | (rw [← HUV.out]; rfl))
            have h1 := HR.out.drewN; have h2 := HM.out.drewN
            clear HR HM HS HGO HST
            rw [← e]
            clear e
            go_wp2
            go_meet
            exact ⟨rfl, h1 _, h2 _⟩
        · have e : J = j := by rw [← HS.out]; exact down_stop _ (.inl (by omega))
          have hd : decide ((I : Int) ≤ (j : Int)) = false := by simp; omega
          have h1 := HR.out.drewN; have h2 := HM.out.drewN
          clear HR HM HS
          go_wp2
          go_quiet (fail)
          go_wp2
          go_meet
          exact ⟨by rw [e], h1 _, h2 _⟩
    case rest =>
      clear HR0 HM0
      obtain ⟨rfl, HR, HM⟩ := hcut
      have hJn : (J : Int) < n := by omega
      by_cases hIJ : J < I
      · have hcmp : (J : Int) < (I : Int) := by omega
        have hr := HPT.out
        rw [if_pos (show I > J from hIJ)] at hr
        subst hr
        obtain ⟨k1, f1⟩ := HR.out.at_ J (by omega)
        obtain ⟨k2, f2⟩ := HR.out.at_ a (by omega)
        obtain ⟨k3, f3⟩ := HR.out.at2 J a (by omega) (by omega)
        have hsw := HR.out.drew.swp J a
        have HSW := Lib.hid hsw
        clear hsw
        generalize d1[J]! = x at *
        generalize d1[a]! = y at *
        go_wp2
        go_region
        all_goals go_wp2
        refine bodyPost_ret (results_two' rfl _ _ _) rfl ?_
        exact ⟨rfl, HSW.out, (((HM.out.drew).setCell (.inl (by simp)) _).setCell (.inl (by simp)) _)⟩
      · have hcmp : ¬ (J : Int) < (I : Int) := by omega
        have hIn : (I : Int) < n := by omega
        have hr := HPT.out
        rw [if_neg (show ¬ I > J from hIJ)] at hr
        obtain ⟨PL, hPL⟩ : ∃ PL, Sort.partLoop Sort.ltInt a (I + 1) (J - 1) (Sort.swp d1 I J) = PL := ⟨_, rfl⟩
        rw [hPL] at hr
        have HPL := Lib.hid hPL; have HRR := Lib.hid hr
        clear hPL hr HPT
        obtain ⟨j', hj'⟩ : ∃ j', J = j' + 1 := ⟨J - 1, by omega⟩
        have hj1 : (J : Int) - 1 = (j' : Int) := by omega
        have HJ' := Lib.hid hj'
        clear hj'
        obtain ⟨k1, f1⟩ := HR.out.at_ I (by omega)
        obtain ⟨k2, f2⟩ := HR.out.at_ J (by omega)
        obtain ⟨k3, f3⟩ := HR.out.at2 I J (by omega) (by omega)
        have hsw := HR.out.drew.swp I J
        have HSW := Lib.hid hsw
        clear hsw
        generalize d1[I]! = x at *
        generalize d1[J]! = y at *
        go_wp2
        go_region
        all_goals go_wp2
        have HM1 := Lib.hid ((((HM.out.drew).setCell (p := ⟨g, I, none⟩) (.inl (by simp)) (.int .u32 y)).setCell (p := ⟨g, J, none⟩) (.inl (by simp)) (.int .u32 x)))
        clear HM HR k1 k2 k3 f1 f2 f3
        go_loopw [10, 11] (fun vi vj wr => ∃ (i j : Nat) (e : Array Int), vi = .int .i64 i ∧ vj = .int .i64 j ∧ a + 1 ≤ i ∧ i ≤ c + 1 ∧ a ≤ j ∧ j ≤ c ∧ Hid (RowU wr base g n cap e) ∧ Hid (Sort.partLoop Sort.ltInt a i j e = PL) ∧ Hid (Mods [g] w wr)) (fun _ vj _ => (intOf vj).toNat)
        case atStart => exact ⟨I + 1, j', _, by go_num, by go_num, by omega, by omega, by have := HJ'.out; omega, by have := HJ'.out; omega, HSW.out, by show _ = PL; rw [← HPL.out, HJ'.out, Nat.add_sub_cancel], HM1.out⟩
        case round =>
          obtain ⟨i0, j0, e, rfl, rfl, hi1, hi2, hj1', hj2', HRE, HPE, HME⟩ := hrel
          clear HSW HM1 HPL HI HJ
          obtain ⟨I2, hI2⟩ : ∃ I2, Sort.scanUp (fun x => Sort.ltInt x e[a]!) e j0 i0 = I2 := ⟨_, rfl⟩
          obtain ⟨J2, hJ2⟩ : ∃ J2, Sort.scanDown (fun x => !Sort.ltInt x e[a]!) e I2 j0 = J2 := ⟨_, rfl⟩
          have hpl := pl_eq (a := a) hI2 hJ2
          rw [HPE.out] at hpl
          have q1 : i0 ≤ I2 := hI2 ▸ up_ge _ e j0 i0
          have q2 : I2 ≤ c + 1 := hI2 ▸ up_le _ e j0 i0 (c + 1) (by omega) (by omega)
          have q3 : a ≤ J2 := hJ2 ▸ down_ge _ e I2 a (by omega) j0 (by omega)
          have q4 : J2 ≤ j0 := hJ2 ▸ down_le _ e I2 j0
          have HPL := Lib.hid hpl; have HI := Lib.hid hI2; have HJ := Lib.hid hJ2
          clear hpl hI2 hJ2 HPE
          obtain ⟨W0, hW0⟩ : ∃ W0 : World, W0 = wr := ⟨_, rfl⟩
          subst hW0
          go_upto_block 6 with fail
          go_cut [10] from 99 to 152 (fun t wx => t = .int .i64 I2 ∧ Hid (RowU wx base g n cap e) ∧ Hid (Mods [g] w wx))
          case first =>
            go_wp2_with fail
            go_loopw [10] (fun vi wr => ∃ i : Nat, vi = .int .i64 i ∧ a + 1 ≤ i ∧ Hid (RowU wr base g n cap e) ∧ Hid (Sort.scanUp (fun x => Sort.ltInt x e[a]!) e j0 i = I2) ∧ Hid (Mods [g] w wr)) (fun vi _ => j0 + 1 - (intOf vi).toNat)
            case atStart => exact ⟨i0, by go_num, by omega, HRE.out, HI.out, HME.out⟩
            case round =>
              obtain ⟨i, rfl, hai, HR, HS, HM⟩ := hrel
              by_cases hij : i ≤ j0
              · have hd : decide ((i : Int) ≤ (j0 : Int)) = true := by simp; omega
                have hin : (i : Int) < n := by omega
                obtain ⟨k1, f1⟩ := HR.out.at_ i (by omega)
                obtain ⟨k2, f2⟩ := HR.out.at_ a (by omega)
                have hgo := up_go (fun x => Sort.ltInt x e[a]!) (d := e) hij
                have hst := fun h => up_stop (fun x => Sort.ltInt x e[a]!) (d := e) (i := i) (j := j0) (.inr h)
                have HGO := Lib.hid hgo; have HST := Lib.hid hst
                clear hgo hst
                obtain ⟨u, hu⟩ : ∃ u, e[i]! = u := ⟨_, rfl⟩
                obtain ⟨v, hv⟩ : ∃ v, e[a]! = v := ⟨_, rfl⟩
                rw [hu] at k1
                rw [hv] at k2
                have HUV := Lib.hid (show Sort.ltInt u v = Sort.ltInt e[i]! e[a]! by rw [hu, hv])
                clear hu hv
                go_wp2
                go_quiet (first | (go_at_call 48; first | refine Calls.quiet_of_same (less_any _ _ _) | refine quiet_two (less_any _ _ _)))
                generalize hl : Sort.ltInt u v = lb at *
                cases lb with
                | true =>
                  go_wp2
                  go_roundw
                  case rel => first | exact ⟨i + 1, by go_num, by omega, HR.out.drewN _, (HGO.out (by first | exact HUV.out.symm | (rw [← HUV.out]; rfl))).symm.trans HS.out, HM.out.drewN _⟩ | ((repeat apply Exists.intro); exact ⟨⟨i + 1, by go_num, by omega, HR.out.drewN _, (HGO.out (by first | exact HUV.out.symm | (rw [← HUV.out]; rfl))).symm.trans HS.out, HM.out.drewN _⟩, rfl⟩) | fail
                  case measure => simp [intOf]; omega
                | false =>
                  have e : I2 = i := by rw [← HS.out]; exact HST.out (by first | exact HUV.out.symm | (rw [← HUV.out]; rfl))
                  have h1 := HR.out.drewN; have h2 := HM.out.drewN
                  clear HR HM HS HGO HST
                  rw [← e]
                  clear e
                  go_wp2
                  go_meet
                  exact ⟨rfl, h1 _, h2 _⟩
              · have e : I2 = i := by rw [← HS.out]; exact up_stop _ (.inl (by omega))
                have hd : decide ((i : Int) ≤ (j0 : Int)) = false := by simp; omega
                have h1 := HR.out.drewN; have h2 := HM.out.drewN
                clear HR HM HS
                go_wp2
                go_quiet (fail)
                go_wp2
                go_meet
                exact ⟨by rw [e], h1 _, h2 _⟩
          case rest =>
            clear HRE HME
            obtain ⟨rfl, HR0, HM0⟩ := hcut
            go_upto_block 8 with fail
            go_cut [11] from 99 to 152 (fun t wx => t = .int .i64 J2 ∧ Hid (RowU wx base g n cap e) ∧ Hid (Mods [g] w wx))
            case first =>
              go_wp2_with fail
              go_loopw [11] (fun vj wr => ∃ j : Nat, vj = .int .i64 j ∧ a ≤ j ∧ j ≤ c ∧ Hid (RowU wr base g n cap e) ∧ Hid (Sort.scanDown (fun x => !Sort.ltInt x e[a]!) e I2 j = J2) ∧ Hid (Mods [g] w wr)) (fun vj _ => (intOf vj).toNat)
              case atStart => exact ⟨j0, by go_num, by omega, by omega, HR0.out, HJ.out, HM0.out⟩
              case round =>
                obtain ⟨j, rfl, haj, hjc, HR, HS, HM⟩ := hrel
                by_cases hij : I2 ≤ j
                · obtain ⟨j, rfl⟩ : ∃ j', j = j' + 1 := ⟨j - 1, by omega⟩
                  have hd : decide ((I2 : Int) ≤ (j : Int) + 1) = true := by simp; omega
                  have hin : (j : Int) + 1 < n := by omega
                  obtain ⟨k1, f1⟩ := HR.out.at_ (j + 1) (by omega)
                  obtain ⟨k2, f2⟩ := HR.out.at_ a (by omega)
                  have hgo := down_go (fun x => !Sort.ltInt x e[a]!) (d := e) hij
                  have hst := fun h => down_stop (fun x => !Sort.ltInt x e[a]!) (d := e) (i := I2) (j := j + 1) (.inr h)
                  have HGO := Lib.hid hgo; have HST := Lib.hid hst
                  clear hgo hst
                  obtain ⟨u, hu⟩ : ∃ u, e[j + 1]! = u := ⟨_, rfl⟩
                  obtain ⟨v, hv⟩ : ∃ v, e[a]! = v := ⟨_, rfl⟩
                  rw [hu] at k1
                  rw [hv] at k2
                  have HUV := Lib.hid (show Sort.ltInt u v = Sort.ltInt e[j + 1]! e[a]! by rw [hu, hv])
                  clear hu hv
                  go_wp2
                  go_quiet (first | (go_at_call 48; first | refine Calls.quiet_of_same (less_any _ _ _) | refine quiet_two (less_any _ _ _)))
                  generalize hl : Sort.ltInt u v = lb at *
                  cases lb with
                  | false =>
                    go_wp2
                    go_roundw
                    case rel => first | exact ⟨j, by go_num, by omega, by omega, HR.out.drewN _, (HGO.out (by first | exact HUV.out.symm | (rw [← HUV.out]; rfl))).symm.trans HS.out, HM.out.drewN _⟩ | ((repeat apply Exists.intro); exact ⟨⟨j, by go_num, by omega, by omega, HR.out.drewN _, (HGO.out (by first | exact HUV.out.symm | (rw [← HUV.out]; rfl))).symm.trans HS.out, HM.out.drewN _⟩, rfl⟩) | fail
                    case measure => simp [intOf]
                  | true =>
                    have e : J2 = j + 1 := by rw [← HS.out]; exact HST.out (by first | exact HUV.out.symm | (rw [← HUV.out]; rfl))
                    have h1 := HR.out.drewN; have h2 := HM.out.drewN
                    clear HR HM HS HGO HST
                    rw [← e]
                    clear e
                    go_wp2
                    go_meet
                    exact ⟨rfl, h1 _, h2 _⟩
                · have e : J2 = j := by rw [← HS.out]; exact down_stop _ (.inl (by omega))
                  have hd : decide ((I2 : Int) ≤ (j : Int)) = false := by simp; omega
                  have h1 := HR.out.drewN; have h2 := HM.out.drewN
                  clear HR HM HS
                  go_wp2
                  go_quiet (fail)
                  go_wp2
                  go_meet
                  exact ⟨by rw [e], h1 _, h2 _⟩
            case rest =>
              clear HR0 HM0
              obtain ⟨rfl, HR, HM⟩ := hcut
              have hJn : (J2 : Int) < n := by omega
              by_cases hIJ : J2 < I2
              · have hcmp : (J2 : Int) < (I2 : Int) := by omega
                have hr := HPL.out
                rw [if_pos (show I2 > J2 from hIJ)] at hr
                subst hr
                have hr := HRR.out
                subst hr
                obtain ⟨k1, f1⟩ := HR.out.at_ J2 (by omega)
                obtain ⟨k2, f2⟩ := HR.out.at_ a (by omega)
                obtain ⟨k3, f3⟩ := HR.out.at2 J2 a (by omega) (by omega)
                have hsw := HR.out.drew.swp J2 a
                have HSW := Lib.hid hsw
                clear hsw
                generalize e[J2]! = x at *
                generalize e[a]! = y at *
                go_wp2
                go_region
                all_goals go_wp2
                refine bodyPost_ret (results_two' rfl _ _ _) rfl ?_
                exact ⟨rfl, HSW.out, (((HM.out.drew).setCell (.inl (by simp)) _).setCell (.inl (by simp)) _)⟩
              · have hcmp : ¬ (J2 : Int) < (I2 : Int) := by omega
                have hIn : (I2 : Int) < n := by omega
                have hr := HPL.out
                rw [if_neg (show ¬ I2 > J2 from hIJ)] at hr
                have HRT := Lib.hid hr
                clear hr HPL
                obtain ⟨j3, hj3⟩ : ∃ j3, J2 = j3 + 1 := ⟨J2 - 1, by omega⟩
                have hj4 : (J2 : Int) - 1 = (j3 : Int) := by omega
                have HJ3 := Lib.hid hj3
                clear hj3
                obtain ⟨k1, f1⟩ := HR.out.at_ I2 (by omega)
                obtain ⟨k2, f2⟩ := HR.out.at_ J2 (by omega)
                obtain ⟨k3, f3⟩ := HR.out.at2 I2 J2 (by omega) (by omega)
                have hsw := HR.out.drew.swp I2 J2
                have HSW := Lib.hid hsw
                clear hsw
                generalize e[I2]! = x at *
                generalize e[J2]! = y at *
                go_wp2
                go_region
                all_goals go_wp2
                go_roundw
                case rel => first | exact ⟨I2 + 1, j3, _, by go_num, by go_num, by omega, by omega, by have := HJ3.out; omega, by have := HJ3.out; omega, HSW.out, by show _ = PL; rw [HRT.out, HJ3.out, Nat.add_sub_cancel], (((HM.out.drew).setCell (.inl (by simp)) _).setCell (.inl (by simp)) _)⟩ | ((repeat apply Exists.intro); exact ⟨⟨I2 + 1, j3, _, by go_num, by go_num, by omega, by omega, by have := HJ3.out; omega, by have := HJ3.out; omega, HSW.out, by show _ = PL; rw [HRT.out, HJ3.out, Nat.add_sub_cancel], (((HM.out.drew).setCell (.inl (by simp)) _).setCell (.inl (by simp)) _)⟩, rfl⟩) | fail
                case measure => have := HJ3.out; simp [intOf]; omega
end Go.Proofs.Ytmgkdlkjcncniaa
