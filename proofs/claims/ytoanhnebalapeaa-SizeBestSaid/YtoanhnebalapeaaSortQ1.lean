/- What the library's insertion sort does with parcels. -/
import Derived.Test.YtoanhnebalapeaaSortQ
namespace Go.Proofs.Ytoanhnebalapeaa
open Go.RowKit
open Go.Proofs.YtoanhnebalapeaaW.PrintWords
open Srt

abbrev lessV : Value := .func (.func 96) #[] #[]

set_option maxHeartbeats 2000000 in
theorem insertionQ (base b n cap : Nat) (p s r : List Parcel) (w : World) (i j : Int) (hi : i = p.length) (hj : j = p.length + s.length) (hn : n ≤ 70368744177664)
    (H : RowQ w base b n cap (p ++ s ++ r)) :
    Calls Try.prog 125 #[.slice (some ⟨b, 0, none⟩) n cap, .int .i64 i, .int .i64 j, lessV] w
      fun e w' => e = .returned (.tuple #[]) ∧ (∃ s', Sorted Parcel.sum s' ∧ FEq Parcel.sum s s' ∧ RowQ w' base b n cap (p ++ s' ++ r)) ∧ Mods [b] w w' := by
  have hlen := H.length
  simp only [List.length_append] at hlen
  have HR := Lib.hid H
  have hb0 : 0 ≤ i ∧ i ≤ j ∧ j ≤ n := by omega
  obtain ⟨h0, h1, h2⟩ := hb0
  have HI := Lib.hid hi; have HJ := Lib.hid hj; have HL := Lib.hid hlen
  have HS : Hid (j - i = (s.length : Int)) := Lib.hid (show j - i = (s.length : Int) from by omega)
  clear H hi hj hlen
  by_cases hs1 : j ≤ i + 1
  · have hsl : Sorted Parcel.sum s := by
      have := HS.out
      match s, this with
      | [], _ => exact sorted_nil _
      | [x], _ => exact sorted_one _ x
      | x :: y :: t, h => simp at h; omega
    have HSL := Lib.hid hsl; clear hsl
    go_enter Try.func125, Try.ntmps125
    go_wp2
    go_loopw [8, 9] (fun x y wr => x = .int .i64 (i + 1) ∧ wr = w) (fun x y _ => 0)
    case atStart => exact ⟨rfl, rfl⟩
    case round =>
      obtain ⟨rfl, rfl⟩ := hrel
      go_wp2
      go_end0
      exact ⟨rfl, ⟨s, HSL.out, FEq.refl _ _, HR.out⟩, Mods.refl _ _⟩
  · obtain ⟨a, rfl⟩ := Int.eq_ofNat_of_zero_le h0
    go_enter Try.func125, Try.ntmps125
    go_wp2
    go_loopw [8, 9] (fun x y wr => ∃ (S T : List Parcel) (m : Nat), x = .int .i64 ((a : Int) + m) ∧ Hid (S.length = m) ∧ 0 < m ∧ (a : Int) + m ≤ j ∧ Hid ((a : Int) + m + T.length = j) ∧ Hid (Sorted Parcel.sum S ∧ FEq Parcel.sum s (S ++ T)) ∧ Hid (RowQ wr base b n cap (p ++ S ++ T ++ r)) ∧ Hid (Mods [b] w wr)) (fun x _ _ => (j - intOf x).toNat)
    case atStart =>
      have h := HS.out
      have hr := HR.out
      match s, h, hr with
      | [], h, _ => simp at h; omega
      | x :: t, h, hr =>
        simp at h
        exact ⟨[x], t, 1, by simp, rfl, by omega, by omega, by show _ = j; omega, ⟨sorted_one _ x, FEq.refl _ _⟩, by show RowQ _ _ _ _ _ _; simpa using hr, Mods.refl _ _⟩
    case round =>
      obtain ⟨S, T, m, rfl, HSm, hm0, hmj, HST, HSF, HR1, HM⟩ := hrel
      by_cases hlt : (a : Int) + m < j
      · obtain ⟨z, T', hT'⟩ : ∃ z T', T = z :: T' := by
          have h := HST.out
          cases T with
          | nil => simp at h; omega
          | cons z T' => exact ⟨z, T', rfl⟩
        subst hT'
        obtain ⟨wo, hwo⟩ : ∃ wo : World, wo = wr := ⟨_, rfl⟩
        subst hwo
        go_wp2
        go_loopw [9] (fun y wr => ∃ (L R : List Parcel) (l : Nat), y = .int .i64 ((a : Int) + l) ∧ Hid (L.length = l) ∧ Hid (L.length + R.length = m) ∧ l ≤ m ∧ Hid (Sorted Parcel.sum (L ++ R) ∧ (∀ y ∈ R, Parcel.sum z < Parcel.sum y) ∧ FEq Parcel.sum s (L ++ z :: R ++ T')) ∧ Hid (RowQ wr base b n cap (p ++ L ++ z :: R ++ T' ++ r)) ∧ Hid (Mods [b] w wr)) (fun y _ => (intOf y).toNat)
        case atStart => exact ⟨S, [], m, rfl, HSm.out, by simpa [Hid] using HSm.out, Nat.le_refl _, ⟨by simpa using HSF.out.1, by simp, by simpa using HSF.out.2⟩, by simpa [Hid] using HR1.out, HM.out⟩
        case round =>
          obtain ⟨L, R, l, rfl, HLl, HLR, hLS, HF, HR2, HM2⟩ := hrel
          have hout : Hid (∀ w', RowQ w' base b n cap (p ++ L ++ z :: R ++ T' ++ r) → Sorted Parcel.sum (L ++ z :: R) → (L ++ z :: R).length = m + 1 ∧ Sorted Parcel.sum (L ++ z :: R) ∧ FEq Parcel.sum s ((L ++ z :: R) ++ T') ∧ RowQ w' base b n cap (p ++ (L ++ z :: R) ++ T' ++ r)) :=
            Lib.hid (show ∀ w', RowQ w' base b n cap (p ++ L ++ z :: R ++ T' ++ r) → Sorted Parcel.sum (L ++ z :: R) → (L ++ z :: R).length = m + 1 ∧ Sorted Parcel.sum (L ++ z :: R) ∧ FEq Parcel.sum s ((L ++ z :: R) ++ T') ∧ RowQ w' base b n cap (p ++ (L ++ z :: R) ++ T' ++ r) from
              fun w' h hs => ⟨by have := HLR.out; simp; omega, hs, by simpa using HF.out.2.2, by simpa using h⟩)
          by_cases hl : l = 0
          · have hL : L = [] := by have := HLl.out; rw [hl] at this; exact List.eq_nil_of_length_eq_zero this
            have hdec : decide ((a : Int) < (a : Int) + (l : Int)) = false := by simp; omega
            have hfin := hout.out
            rw [hL] at hfin
            have hs0 : Sorted Parcel.sum ([] ++ z :: R) := insert_done (by have := HF.out.1; rwa [hL] at this) HF.out.2.1 (by simp)
            have hr0 := HR2.out
            rw [hL] at hr0
            have HS0 := Lib.hid hs0; have HFIN := Lib.hid hfin; have HR0 := Lib.hid hr0
            clear hL hs0 hfin hr0 hl
            go_wp2
            go_quiet (fail)
            go_wp2
            go_roundw
            case rel =>
              obtain ⟨q1, q2, q3, q4⟩ := HFIN.out _ (HR0.out.drewN _) HS0.out
              refine ⟨_, T', m + 1, by go_num, q1, by omega, by omega, ?_, ⟨q2, q3⟩, q4, HM2.out.drewN _⟩
              have := HST.out; simp at this; show _ = j; simp; omega
            case measure => simp [intOf]; omega
          · obtain ⟨l', rfl⟩ : ∃ l', l = l' + 1 := ⟨l - 1, by omega⟩
            obtain ⟨L', y, hL'⟩ : ∃ L' y, L = L' ++ [y] := by
              have := HLl.out
              rcases List.eq_nil_or_concat L with e | ⟨L', y, e⟩
              · rw [e] at this; simp at this
              · exact ⟨L', y, by simpa using e⟩
            have hL'l : L'.length = l' := by have := HLl.out; rw [hL'] at this; simpa using this
            have hpl : p.length = a := by have := HI.out; omega
            have hr := HR2.out
            rw [hL'] at hr
            have hfit : a + l' + 1 < n := by
              have h1 := hr.length
              simp at h1; omega
            have ez : (p ++ (L' ++ [y]) ++ z :: R ++ T' ++ r)[a + l' + 1]? = some z := by
              have e : p ++ (L' ++ [y]) ++ z :: R ++ T' ++ r = (p ++ L' ++ [y]) ++ z :: (R ++ T' ++ r) := by simp
              rw [e]; exact get_mid _ _ _ _ (by simp; omega)
            have ey : (p ++ (L' ++ [y]) ++ z :: R ++ T' ++ r)[a + l']? = some y := by
              have e : p ++ (L' ++ [y]) ++ z :: R ++ T' ++ r = (p ++ L') ++ y :: (z :: R ++ T' ++ r) := by simp
              rw [e]; exact get_mid _ _ _ _ (by simp; omega)
            obtain ⟨hc1, hc1', hf1, hf1'⟩ := hr.at _ _ ez
            obtain ⟨hc2, hc2', hf2, hf2'⟩ := hr.at _ _ ey
            have HEZ := Lib.hid ez; have HEY := Lib.hid ey
            have HR3 := Lib.hid hr; have HL' := Lib.hid hL'; have HPL := Lib.hid hpl; have HLL := Lib.hid hL'l
            clear hr ez ey hL' hpl hL'l
            have hdec : decide ((a : Int) < (a : Int) + ((l' : Int) + 1)) = true := by simp; omega
            have hw : IntKind.i64.wrap ((a : Int) + ((l' : Int) + 1) - 1) = (a : Int) + (l' : Int) := by rw [IntWalk.i64_in _ (by omega)]; omega
            have hi1 : (a : Int) + ((l' : Int) + 1) < (n : Int) := by omega
            have hi2 : (a : Int) + (l' : Int) < (n : Int) := by omega
            have hi3 : (0 : Int) ≤ (a : Int) + ((l' : Int) + 1) := by omega
            have hi4 : (0 : Int) ≤ (a : Int) + (l' : Int) := by omega
            have ht1 : ((a : Int) + ((l' : Int) + 1)).toNat = a + (l' + 1) := by omega
            have ht2 : ((a : Int) + (l' : Int)).toNat = a + l' := by omega
            rw [Nat.add_assoc] at hc1 hf1 hc1' hf1'
            have hne0 := World.new_ne wr _ hc1; have hne1 := World.new_ne wr _ hc1'; have hne2 := World.new_ne wr _ hc2; have hne3 := World.new_ne wr _ hc2'
            by_cases hk : z.sum < y.sum
            · have hcmp := cmpS_yes hk
              go_wp2
              go_region_held3 (fun w' => w'.cell? ⟨b, (a + (l' + 1)) * 2, none⟩ = some (.int .i64 z.sum) ∧ w'.cell? ⟨b, (a + (l' + 1)) * 2 + 1, none⟩ = some (.slice z.A z.n z.c) ∧ w'.cell? ⟨b, (a + l') * 2, none⟩ = some (.int .i64 y.sum) ∧ w'.cell? ⟨b, (a + l') * 2 + 1, none⟩ = some (.slice y.A y.n y.c)) (go_keep) ((go_at_call 96; refine (less1 _ _ _ _ _).mono ?_; rintro e w' ⟨rfl, rfl⟩))
              have hMw : Mods [] wr (((wr.alloc (.cells #[.int .i64 z.sum, .slice z.A z.n z.c] 96)).alloc (.cells #[.int .i64 y.sum, .slice y.A y.n y.c] 96)).drew) := (((Mods.refl [] wr).alloc _).alloc _).drew
              generalize hwc : ((wr.alloc (.cells #[.int .i64 z.sum, .slice z.A z.n z.c] 96)).alloc (.cells #[.int .i64 y.sum, .slice y.A y.n y.c] 96)).drew = wc at *
              have hRc := HR3.out.mods hMw (by simp)
              have HMc := Lib.hid (HM2.out.trans (hMw.mono (by simp)))
              clear hwc hMw hc1 hc1' hc2 hc2' hf1 hf1' hf2 hf2' hne0 hne1 hne2 hne3
              obtain ⟨hc1, hc1', hf1, hf1'⟩ := hRc.at _ _ HEZ.out
              obtain ⟨hc2, hc2', hf2, hf2'⟩ := hRc.at _ _ HEY.out
              rw [Nat.add_assoc] at hc1 hf1 hc1' hf1'
              have HRc := Lib.hid hRc
              clear hRc
              go_wp2
              go_region
              go_wp2
              go_roundw
              case rel =>
                have hlz : z.sum < y.sum := hk
                have hF := HF.out
                rw [HL'.out] at hF
                refine ⟨L', y :: R, l', rfl, HLL.out, ?_, by omega, ⟨sorted_mid hF.1, ?_, ?_⟩, ?_, ((((HMc.out.setCell (by simp) _).setCell (by simp) _).setCell (by simp) _).setCell (by simp) _).drew⟩
                · have h1 := HLR.out
                  rw [HL'.out] at h1
                  show _ = _
                  simp at h1 ⊢; omega
                · intro q hq
                  rcases List.mem_cons.1 hq with e | e
                  · rw [e]; exact hlz
                  · exact hF.2.1 q e
                · refine hF.2.2.trans ?_
                  have h := FEq.step (key := Parcel.sum) L' (R ++ T') z y hlz
                  simpa using h
                · have h := ((HRc.out.set (a + (l' + 1)) y (by omega)).set (a + l') z (by omega)).drew
                  have e1 : p ++ (L' ++ [y]) ++ z :: R ++ T' ++ r = (p ++ L') ++ y :: z :: (R ++ T' ++ r) := by simp
                  have hpl : (p ++ L').length = a + l' := by have := HPL.out; have := HLL.out; simp; omega
                  rw [e1, swap_adj (p ++ L') (R ++ T' ++ r) y z (a + l') (a + (l' + 1)) (by omega) (by omega)] at h
                  show RowQ _ _ _ _ _ _
                  simpa using h
              case measure => simp [intOf]; omega
            · have hfin : Sorted Parcel.sum (L ++ z :: R) := by
                refine insert_done HF.out.1 HF.out.2.1 ?_
                have h1 := HF.out.1
                rw [HL'.out] at h1 ⊢
                exact last_le (sorted_app.1 h1).1 (by omega)
              have HFIN := Lib.hid hfin; clear hfin
              have hcmp := cmpS_no hk
              go_wp2
              go_region_held3 (fun w' => w'.cell? ⟨b, (a + (l' + 1)) * 2, none⟩ = some (.int .i64 z.sum) ∧ w'.cell? ⟨b, (a + (l' + 1)) * 2 + 1, none⟩ = some (.slice z.A z.n z.c) ∧ w'.cell? ⟨b, (a + l') * 2, none⟩ = some (.int .i64 y.sum) ∧ w'.cell? ⟨b, (a + l') * 2 + 1, none⟩ = some (.slice y.A y.n y.c)) (go_keep) ((go_at_call 96; refine (less1 _ _ _ _ _).mono ?_; rintro e w' ⟨rfl, rfl⟩))
              have hMw : Mods [] wr (((wr.alloc (.cells #[.int .i64 z.sum, .slice z.A z.n z.c] 96)).alloc (.cells #[.int .i64 y.sum, .slice y.A y.n y.c] 96)).drew) := (((Mods.refl [] wr).alloc _).alloc _).drew
              generalize hwc : ((wr.alloc (.cells #[.int .i64 z.sum, .slice z.A z.n z.c] 96)).alloc (.cells #[.int .i64 y.sum, .slice y.A y.n y.c] 96)).drew = wc at *
              have hRc := HR3.out.mods hMw (by simp)
              have HMc := Lib.hid (HM2.out.trans (hMw.mono (by simp)))
              clear hwc hMw hc1 hc1' hc2 hc2' hf1 hf1' hf2 hf2' hne0 hne1 hne2 hne3
              go_wp2
              go_roundw
              case rel =>
                obtain ⟨q1, q2, q3, q4⟩ := hout.out _ (by rw [HL'.out]; exact hRc) HFIN.out
                refine ⟨_, T', m + 1, by go_num, q1, by omega, by omega, ?_, ⟨q2, q3⟩, q4, HMc.out⟩
                have := HST.out; simp at this; show _ = j; simp; omega
              case measure => simp [intOf]; omega
      · go_wp2
        go_end0
        have hT : T = [] := by have h := HST.out; cases T with | nil => rfl | cons => simp at h; omega
        have hr := HR1.out
        have hf := HSF.out
        rw [hT] at hr hf
        exact ⟨rfl, ⟨S, hf.1, by simpa using hf.2, by simpa using hr⟩, HM.out⟩
end Go.Proofs.Ytoanhnebalapeaa
