/- The library's symmetrical merge, general case, and its stable sort, of parcels. -/
import Derived.Test.YtoanhnebalapeaaSortQ2
namespace Go.Proofs.Ytoanhnebalapeaa
open Go.RowKit
open Go.Proofs.YtoanhnebalapeaaW.PrintWords
open Srt

/-- What a symmetrical merge does, at segments of at most N elements. -/
def SymMergeQ (N : Nat) : Prop := ∀ (base b n cap : Nat) (p s1 s2 r : List Parcel) (w : World) (i m k : Nat), s1.length + s2.length ≤ N → i = p.length → m = p.length + s1.length → k = p.length + s1.length + s2.length → 0 < s1.length → 0 < s2.length → n ≤ 70368744177664 →
    Sorted Parcel.sum s1 → Sorted Parcel.sum s2 → RowQ w base b n cap (p ++ (s1 ++ s2) ++ r) →
    Calls Try.prog 126 #[.slice (some ⟨b, 0, none⟩) n cap, .int .i64 (i : Nat), .int .i64 (m : Nat), .int .i64 (k : Nat), lessV] w
      fun e w' => e = .returned (.tuple #[]) ∧ (∃ s', Sorted Parcel.sum s' ∧ FEq Parcel.sum (s1 ++ s2) s' ∧ RowQ w' base b n cap (p ++ s' ++ r)) ∧ Mods [b] w w'

set_option maxRecDepth 100000 in
set_option maxHeartbeats 4000000 in
theorem symMergeQC (N : Nat) (IH : SymMergeQ N) (base b n cap : Nat) (p s1 s2 r : List Parcel) (w : World) (i m k : Nat) (hN : s1.length + s2.length ≤ N + 1) (hi : i = p.length) (hm : m = p.length + s1.length) (hk : k = p.length + s1.length + s2.length) (h1 : 2 ≤ s1.length) (h2 : 2 ≤ s2.length) (hn : n ≤ 70368744177664)
    (hs1 : Sorted Parcel.sum s1) (hs2 : Sorted Parcel.sum s2) (H : RowQ w base b n cap (p ++ (s1 ++ s2) ++ r)) :
    Calls Try.prog 126 #[.slice (some ⟨b, 0, none⟩) n cap, .int .i64 (i : Nat), .int .i64 (m : Nat), .int .i64 (k : Nat), lessV] w
      fun e w' => e = .returned (.tuple #[]) ∧ (∃ s', Sorted Parcel.sum s' ∧ FEq Parcel.sum (s1 ++ s2) s' ∧ RowQ w' base b n cap (p ++ s' ++ r)) ∧ Mods [b] w w' := by
  have hlen := H.length
  simp only [List.length_append] at hlen
  have HIH := Lib.hid IH; have HR := Lib.hid H; have HS1 := Lib.hid hs1; have HS2 := Lib.hid hs2
  have h0 : i + 2 ≤ m ∧ m + 2 ≤ k ∧ k ≤ n := by omega
  obtain ⟨h3, h4, h5⟩ := h0
  have HI := Lib.hid hi; have HK := Lib.hid hk; have HL := Lib.hid hlen; have HMM := Lib.hid hm
  clear IH H hi hk hlen hs1 hs2 hm
  have hm1 : ((m : Int) - (i : Int) == 1) = false := by simp; omega
  have hm2 : ((k : Int) - (m : Int) == 1) = false := by simp; omega
  obtain ⟨mid, hmid⟩ : ∃ mid, mid = (i + k) / 2 := ⟨_, rfl⟩
  have emid : ((i : Int) + (k : Int)) / 2 = (mid : Int) := by omega
  have hmb1 : i + k ≤ 2 * mid + 1 ∧ 2 * mid ≤ i + k := by omega
  obtain ⟨lo, hi, hcase⟩ : ∃ lo hi, (mid < m ∧ lo + k = mid + m ∧ hi = mid) ∨ (m ≤ mid ∧ lo = i ∧ hi = m) := by
    by_cases h : mid < m
    · exact ⟨mid + m - k, mid, .inl ⟨h, by omega, rfl⟩⟩
    · exact ⟨i, m, .inr ⟨by omega, rfl, rfl⟩⟩
  have hF : i ≤ lo ∧ lo ≤ hi ∧ hi ≤ mid ∧ hi ≤ m ∧ mid + m ≤ lo + k ∧ mid < k := by omega
  obtain ⟨f1, f2, f3, f4, f5, f6⟩ := hF
  have hs1l : s1.length = m - i := by have := HMM.out; have := HI.out; omega
  have hs2l : s2.length = k - m := by have := HMM.out; have := HK.out; omega
  have HS1L := Lib.hid hs1l; have HS2L := Lib.hid hs2l; have HMID := Lib.hid hmid; have HCASE := Lib.hid hcase
  clear hmid hs1l hs2l hcase
  obtain ⟨dm, hdm, HDM⟩ : ∃ dm, decide (mid < m) = dm ∧ Hid ((dm = true → mid < m) ∧ (dm = false → m ≤ mid)) := ⟨_, rfl, by constructor <;> intro h <;> simpa using h⟩
  cases dm
  all_goals
    go_enter Try.func126, Try.ntmps126
    go_wp2_with fail
    go_loopw [20, 21, 23] (fun u v h wr => ∃ (st rr : Nat), u = .int .i64 (st : Nat) ∧ v = .int .i64 (rr : Nat) ∧ lo ≤ st ∧ st ≤ rr ∧ rr ≤ hi ∧
      Hid (lo < st → ∃ x y, s1[st - 1 - i]? = some x ∧ s2[mid - st]? = some y ∧ Parcel.sum x ≤ Parcel.sum y) ∧
      Hid (rr < hi → ∃ x y, s1[rr - i]? = some x ∧ s2[mid - rr - 1]? = some y ∧ Parcel.sum y < Parcel.sum x) ∧ Hid (Mods [] w wr)) (fun u v _ _ => (intOf v - intOf u).toNat)
    case atStart =>
      refine ⟨lo, hi, ?_, ?_, Nat.le_refl _, f2, Nat.le_refl _, fun h => absurd h (by omega), fun h => absurd h (by omega), Mods.refl _ _⟩
      · have := HCASE.out; have := HDM.out; simp at this; congr 1; omega
      · have := HCASE.out; have := HDM.out; simp at this; congr 1; omega
    case round =>
      obtain ⟨st, rr, rfl, rfl, g1, g2, g3, HLO, HHI, HQ⟩ := hrel
      have HRW := Lib.hid (show RowQ wr base b n cap (p ++ (s1 ++ s2) ++ r) from HR.out.mods HQ.out (by simp))
      have HMW := Lib.hid (show Mods [b] w wr from HQ.out.mono (by simp))
      by_cases hlt : st < rr
      · have hh2 : (st + rr) / 2 < rr := by omega
        have hh3 : st ≤ (st + rr) / 2 := by omega
        generalize hh : (st + rr) / 2 = h at *
        have ehh : ((st : Int) + (rr : Int)) / 2 = (h : Int) := by omega
        have HH := Lib.hid hh; clear hh
        have hpl : p.length = i := HI.out.symm
        obtain ⟨j, hj⟩ : ∃ j, j = mid + m - 1 - h := ⟨_, rfl⟩
        have ej : (mid : Int) + (m : Int) - 1 - (h : Int) = (j : Int) := by omega
        have hjn : m ≤ j ∧ j < n ∧ h < n := by omega
        obtain ⟨j1, j2, j3⟩ := hjn
        have hjs : j - m < s2.length := by have := HS2L.out; omega
        have hhs : h - i < s1.length := by have := HS1L.out; omega
        obtain ⟨x, hx⟩ : ∃ x, s1[h - i]? = some x := ⟨_, List.getElem?_eq_getElem hhs⟩
        obtain ⟨y, hy⟩ : ∃ y, s2[j - m]? = some y := ⟨_, List.getElem?_eq_getElem hjs⟩
        have hr := HRW.out
        have ex : (p ++ (s1 ++ s2) ++ r)[h]? = some x := by
          rw [List.append_assoc, List.getElem?_append_right (by omega), List.append_assoc, List.getElem?_append_left (by omega), show h - p.length = h - i from by omega]
          exact hx
        have ey : (p ++ (s1 ++ s2) ++ r)[j]? = some y := by
          have := HMM.out
          rw [List.append_assoc, List.getElem?_append_right (by omega), List.append_assoc, List.getElem?_append_right (by omega), List.getElem?_append_left (by omega), show j - p.length - s1.length = j - m from by omega]
          exact hy
        obtain ⟨hc1, hc1', hf1, hf1'⟩ := hr.at _ _ ex
        obtain ⟨hc2, hc2', hf2, hf2'⟩ := hr.at _ _ ey
        have HR3 := Lib.hid hr; have HPL := Lib.hid hpl; have HX := Lib.hid hx; have HY := Lib.hid hy; have HJ := Lib.hid hj
        clear hr ex ey hpl hx hy hj
        have hne0 := World.new_ne wr _ hc1; have hne1 := World.new_ne wr _ hc1'; have hne2 := World.new_ne wr _ hc2; have hne3 := World.new_ne wr _ hc2'
        have hi1 : (h : Int) < (n : Int) := by omega
        have hi2 : (j : Int) < (n : Int) := by omega
        have hw : IntKind.i64.wrap ((mid : Int) + (m : Int) - 1 - (h : Int)) = (j : Int) := by rw [IntWalk.i64_in _ (by omega)]; omega
        have hw2 : IntKind.i64.wrap (j : Int) = (j : Int) := by rw [IntWalk.i64_in _ (by omega)]
        have hi3 : (0 : Int) ≤ (j : Int) := by omega
        have hi4 : ((j : Int)).toNat = j := by omega
        by_cases hk : y.sum < x.sum
        · have HKK : Hid (y.sum < x.sum) := Lib.hid (show y.sum < x.sum from hk)
          have hcmp := cmpS_yes hk
          go_wp2_with fail
          go_region_held3 (fun w' => w'.cell? ⟨b, j * 2, none⟩ = some (.int .i64 y.sum) ∧ w'.cell? ⟨b, j * 2 + 1, none⟩ = some (.slice y.A y.n y.c) ∧ w'.cell? ⟨b, h * 2, none⟩ = some (.int .i64 x.sum) ∧ w'.cell? ⟨b, h * 2 + 1, none⟩ = some (.slice x.A x.n x.c)) (go_keep) ((go_at_call 96; refine (less1 _ _ _ _ _).mono ?_; rintro e w' ⟨rfl, rfl⟩))
          have hMw : Mods [] wr (((wr.alloc (.cells #[.int .i64 y.sum, .slice y.A y.n y.c] 96)).alloc (.cells #[.int .i64 x.sum, .slice x.A x.n x.c] 96)).drew) := (((Mods.refl [] wr).alloc _).alloc _).drew
          generalize hwc : ((wr.alloc (.cells #[.int .i64 y.sum, .slice y.A y.n y.c] 96)).alloc (.cells #[.int .i64 x.sum, .slice x.A x.n x.c] 96)).drew = wc at *
          have HMc := Lib.hid (HQ.out.trans hMw)
          clear hwc hMw hc1 hc1' hc2 hc2' hf1 hf1' hf2 hf2' hne0 hne1 hne2 hne3
          go_wp2_with fail
          go_roundw
          case rel =>
            refine ⟨st, h, rfl, rfl, g1, by omega, by omega, HLO, ?_, ?_⟩
            · exact fun _ => ⟨x, y, HX.out, by have h1 := HY.out; have := HJ.out; rw [show j - m = mid - h - 1 from by omega] at h1; exact h1, HKK.out⟩
            · exact HMc.out
          case measure => simp [intOf]; omega
        · have HKK : Hid (x.sum ≤ y.sum) := Lib.hid (show x.sum ≤ y.sum from by omega)
          have hcmp := cmpS_no hk
          go_wp2_with fail
          go_region_held3 (fun w' => w'.cell? ⟨b, j * 2, none⟩ = some (.int .i64 y.sum) ∧ w'.cell? ⟨b, j * 2 + 1, none⟩ = some (.slice y.A y.n y.c) ∧ w'.cell? ⟨b, h * 2, none⟩ = some (.int .i64 x.sum) ∧ w'.cell? ⟨b, h * 2 + 1, none⟩ = some (.slice x.A x.n x.c)) (go_keep) ((go_at_call 96; refine (less1 _ _ _ _ _).mono ?_; rintro e w' ⟨rfl, rfl⟩))
          have hMw : Mods [] wr (((wr.alloc (.cells #[.int .i64 y.sum, .slice y.A y.n y.c] 96)).alloc (.cells #[.int .i64 x.sum, .slice x.A x.n x.c] 96)).drew) := (((Mods.refl [] wr).alloc _).alloc _).drew
          generalize hwc : ((wr.alloc (.cells #[.int .i64 y.sum, .slice y.A y.n y.c] 96)).alloc (.cells #[.int .i64 x.sum, .slice x.A x.n x.c] 96)).drew = wc at *
          have HMc := Lib.hid (HQ.out.trans hMw)
          clear hwc hMw hc1 hc1' hc2 hc2' hf1 hf1' hf2 hf2' hne0 hne1 hne2 hne3
          go_wp2_with fail
          go_roundw
          case rel =>
            refine ⟨h + 1, rr, by go_num, rfl, by omega, by omega, by omega, ?_, HHI, ?_⟩
            · exact fun _ => ⟨x, y, by rw [show h + 1 - 1 - i = h - i from by omega]; exact HX.out, by have h1 := HY.out; have := HJ.out; rw [show j - m = mid - (h + 1) from by omega] at h1; exact h1, HKK.out⟩
            · exact HMc.out
          case measure => simp [intOf]; omega
      · have hsr : st = rr := by omega
        subst hsr
        obtain ⟨en, hen⟩ : ∃ en, en = mid + m - st := ⟨_, rfl⟩
        have een : (mid : Int) + (m : Int) - (st : Int) = (en : Int) := by omega
        have henb : m ≤ en ∧ en ≤ k ∧ st ≤ m ∧ st ≤ mid ∧ i ≤ st ∧ mid ≤ en := by omega
        obtain ⟨e1, e2, e3, e4, e5, e6⟩ := henb
        have hpl : p.length = i := HI.out.symm
        obtain ⟨u1, u2, hu, hu1, hu2⟩ : ∃ u1 u2, s1 = u1 ++ u2 ∧ u1.length = st - i ∧ u2.length = m - st := ⟨s1.take (st - i), s1.drop (st - i), by simp, by have := HS1L.out; simp; omega, by have := HS1L.out; simp; omega⟩
        obtain ⟨v1, v2, hv, hv1, hv2⟩ : ∃ v1 v2, s2 = v1 ++ v2 ∧ v1.length = mid - st ∧ v2.length = k - en := ⟨s2.take (mid - st), s2.drop (mid - st), by simp, by have := HS2L.out; simp; omega, by have := HS2L.out; simp; omega⟩
        have hu1' : u1 = s1.take (st - i) := by rw [hu, ← hu1]; simp
        have hu2' : u2 = s1.drop (st - i) := by rw [hu, ← hu1]; simp
        have hv1' : v1 = s2.take (mid - st) := by rw [hv, ← hv1]; simp
        have hv2' : v2 = s2.drop (mid - st) := by rw [hv, ← hv1]; simp
        have hd9 := HDM.out
        simp at hd9
        have hord1 : ∀ a ∈ u1, ∀ c ∈ v2, Parcel.sum a ≤ Parcel.sum c := by
          by_cases h : lo < st
          · obtain ⟨x, y, hx, hy, hxy⟩ := HLO.out h
            intro a ha c hc
            rw [hu1'] at ha
            rw [hv2'] at hc
            have q1 := sorted_take HS1.out hx a (by rw [show st - 1 - i + 1 = st - i from by omega]; exact ha)
            have q2 := sorted_drop HS2.out hy c hc
            omega
          · rcases HCASE.out with ⟨_, hc1, _⟩ | ⟨_, hc1, _⟩
            · have : v2 = [] := List.eq_nil_of_length_eq_zero (by omega)
              rw [this]; simp
            · have : u1 = [] := List.eq_nil_of_length_eq_zero (by omega)
              rw [this]; simp
        have hord2 : ∀ a ∈ u2, ∀ c ∈ v1, Parcel.sum c < Parcel.sum a := by
          by_cases h : st < hi
          · obtain ⟨x, y, hx, hy, hxy⟩ := HHI.out h
            intro a ha c hc
            rw [hu2'] at ha
            rw [hv1'] at hc
            have q1 := sorted_drop HS1.out hx a ha
            have q2 := sorted_take HS2.out hy c (by rw [show mid - st - 1 + 1 = mid - st from by omega]; exact hc)
            omega
          · rcases HCASE.out with ⟨_, _, hc1⟩ | ⟨_, _, hc1⟩
            · have : v1 = [] := List.eq_nil_of_length_eq_zero (by omega)
              rw [this]; simp
            · have : u2 = [] := List.eq_nil_of_length_eq_zero (by omega)
              rw [this]; simp
        have hsu : Sorted Parcel.sum (u1 ++ u2) := by rw [← hu]; exact HS1.out
        have hsv : Sorted Parcel.sum (v1 ++ v2) := by rw [← hv]; exact HS2.out
        have hjoin : ∀ L R, Sorted Parcel.sum L → Sorted Parcel.sum R → FEq Parcel.sum (u1 ++ v1) L → FEq Parcel.sum (u2 ++ v2) R → Sorted Parcel.sum (L ++ R) ∧ FEq Parcel.sum (s1 ++ s2) (L ++ R) := fun L R a b c d => by
          rw [hu, hv]; exact merge_join hsu hsv hord1 hord2 a b c d
        have hrow := HRW.out
        rw [hu, hv] at hrow
        have HROW := Lib.hid hrow; have HJOIN := Lib.hid hjoin; have HSU := Lib.hid (sorted_app.1 hsu); have HSV := Lib.hid (sorted_app.1 hsv)
        have HPL := Lib.hid hpl; have HU1 := Lib.hid hu1; have HU2 := Lib.hid hu2; have HV1 := Lib.hid hv1; have HV2 := Lib.hid hv2; have HEN := Lib.hid hen
        have hNN : u1.length + v1.length ≤ N ∧ u2.length + v2.length ≤ N := by have := HS1L.out; have := HS2L.out; constructor <;> omega
        have HNN := Lib.hid hNN
        clear hrow hjoin hsu hsv hord1 hord2 hu1' hu2' hv1' hv2' hu hv hu1 hu2 hv1 hv2 hpl hen hNN hd9 hlt
        by_cases c1 : st < m ∧ m < en
        · obtain ⟨c1a, c1b⟩ := c1
          have b1 : (decide (st < m) && decide (m < en)) = true := by simp; omega
          go_wp2_with fail
          refine (rotateQ base b n cap _ (p ++ u1) u2 v1 (v2 ++ r) _ _ _ _ (by have := HPL.out; have := HU1.out; simp; omega) (by have := HPL.out; have := HU1.out; have := HU2.out; simp; omega) (by have := HPL.out; have := HU1.out; have := HU2.out; have := HV1.out; have := HEN.out; simp; omega) hn (by have := HU2.out; omega) (by have := HV1.out; have := HEN.out; omega) (by simpa only [List.append_assoc] using HROW.out)).mono ?_
          rintro e w2 ⟨rfl, hR2, hM2⟩
          have HR2 := Lib.hid (show RowQ w2 base b n cap (p ++ ((u1 ++ v1) ++ (u2 ++ v2)) ++ r) from by simpa only [List.append_assoc] using hR2)
          have HM2 := Lib.hid (HMW.out.trans hM2)
          clear hR2 hM2
          by_cases c2 : i < st ∧ st < mid
          · obtain ⟨c2a, c2b⟩ := c2
            have b2 : (decide (i < st) && decide (st < mid)) = true := by simp; omega
            go_wp2_with fail
            refine (HIH.out base b n cap p u1 v1 ((u2 ++ v2) ++ r) w2 _ _ _ HNN.out.1 HI.out (by have := HPL.out; have := HU1.out; omega) (by have := HPL.out; have := HU1.out; have := HV1.out; omega) (by have := HU1.out; omega) (by have := HV1.out; omega) hn HSU.out.1 HSV.out.1 (by simpa only [List.append_assoc] using HR2.out)).mono ?_
            rintro e w3 ⟨rfl, ⟨L, hL1, hL2, hR3⟩, hM3⟩
            have HR3 := Lib.hid (show RowQ w3 base b n cap (p ++ (L ++ (u2 ++ v2)) ++ r) from by simpa only [List.append_assoc] using hR3)
            have HL := Lib.hid (And.intro hL1 hL2); have HM3 := Lib.hid (HM2.out.trans hM3)
            clear hL1 hL2 hR3 hM3
            by_cases c3 : mid < en ∧ en < k
            · obtain ⟨c3a, c3b⟩ := c3
              have b3 : (decide (mid < en) && decide (en < k)) = true := by simp; omega
              go_wp2_with fail
              refine (HIH.out base b n cap (p ++ L) u2 v2 r w3 _ _ _ HNN.out.2 (by have := HPL.out; have := HL.out.2.length; have := HU1.out; have := HV1.out; simp at *; omega) (by have := HPL.out; have := HL.out.2.length; have := HU1.out; have := HV1.out; have := HU2.out; have := HEN.out; simp at *; omega) (by have := HPL.out; have := HL.out.2.length; have := HU1.out; have := HV1.out; have := HU2.out; have := HV2.out; have := HEN.out; simp at *; omega) (by have := HU2.out; have := HEN.out; omega) (by have := HV2.out; omega) hn HSU.out.2.1 HSV.out.2.1 (by simpa only [List.append_assoc] using HR3.out)).mono ?_
              rintro e w4 ⟨rfl, ⟨R, hR1, hR2, hR4⟩, hM4⟩
              have HR4 := Lib.hid hR4; have HRR := Lib.hid (And.intro hR1 hR2); have HM4 := Lib.hid hM4
              clear hR1 hR2 hR4 hM4
              go_wp2_with fail
              go_end0
              obtain ⟨q1, q2⟩ := HJOIN.out L R HL.out.1 HRR.out.1 HL.out.2 HRR.out.2
              exact ⟨rfl, ⟨L ++ R, q1, q2, by simpa only [List.append_assoc] using HR4.out⟩, HM3.out.trans HM4.out⟩
            · have b3 : (decide (mid < en) && decide (en < k)) = false := by simp; omega
              have hRs : Sorted Parcel.sum (u2 ++ v2) := by
                by_cases h : mid < en
                · have : v2 = [] := List.eq_nil_of_length_eq_zero (by have := HV2.out; omega)
                  rw [this, List.append_nil]; exact HSU.out.2.1
                · have : u2 = [] := List.eq_nil_of_length_eq_zero (by have := HU2.out; have := HEN.out; omega)
                  rw [this]; exact HSV.out.2.1
              have HRS := Lib.hid hRs; clear hRs
              go_wp2_with fail
              all_goals
                go_end0
                obtain ⟨q1, q2⟩ := HJOIN.out L (u2 ++ v2) HL.out.1 HRS.out HL.out.2 (FEq.refl _ _)
                exact ⟨rfl, ⟨L ++ (u2 ++ v2), q1, q2, HR3.out⟩, HM3.out⟩
          · have b2 : (decide (i < st) && decide (st < mid)) = false := by simp; omega
            have hLs : Sorted Parcel.sum (u1 ++ v1) := by
              by_cases h : i < st
              · have : v1 = [] := List.eq_nil_of_length_eq_zero (by have := HV1.out; omega)
                rw [this, List.append_nil]; exact HSU.out.1
              · have : u1 = [] := List.eq_nil_of_length_eq_zero (by have := HU1.out; omega)
                rw [this]; exact HSV.out.1
            obtain ⟨L, HLe⟩ : ∃ L, Hid (L = u1 ++ v1) := ⟨_, rfl⟩
            have HL := Lib.hid (show Sorted Parcel.sum L ∧ FEq Parcel.sum (u1 ++ v1) L from by rw [HLe.out]; exact ⟨hLs, FEq.refl _ _⟩)
            have HR3 := Lib.hid (show RowQ w2 base b n cap (p ++ (L ++ (u2 ++ v2)) ++ r) from by rw [HLe.out]; exact HR2.out)
            have HM3 := HM2
            clear hLs
            obtain ⟨w3, hw3⟩ : ∃ w3, w3 = w2 := ⟨_, rfl⟩
            subst hw3
            by_cases c3 : mid < en ∧ en < k
            · obtain ⟨c3a, c3b⟩ := c3
              have b3 : (decide (mid < en) && decide (en < k)) = true := by simp; omega
              go_wp2_with fail
              refine (HIH.out base b n cap (p ++ L) u2 v2 r w3 _ _ _ HNN.out.2 (by have := HPL.out; have := HL.out.2.length; have := HU1.out; have := HV1.out; simp at *; omega) (by have := HPL.out; have := HL.out.2.length; have := HU1.out; have := HV1.out; have := HU2.out; have := HEN.out; simp at *; omega) (by have := HPL.out; have := HL.out.2.length; have := HU1.out; have := HV1.out; have := HU2.out; have := HV2.out; have := HEN.out; simp at *; omega) (by have := HU2.out; have := HEN.out; omega) (by have := HV2.out; omega) hn HSU.out.2.1 HSV.out.2.1 (by simpa only [List.append_assoc] using HR3.out)).mono ?_
              rintro e w4 ⟨rfl, ⟨R, hR1, hR2, hR4⟩, hM4⟩
              have HR4 := Lib.hid hR4; have HRR := Lib.hid (And.intro hR1 hR2); have HM4 := Lib.hid hM4
              clear hR1 hR2 hR4 hM4
              go_wp2_with fail
              go_end0
              obtain ⟨q1, q2⟩ := HJOIN.out L R HL.out.1 HRR.out.1 HL.out.2 HRR.out.2
              exact ⟨rfl, ⟨L ++ R, q1, q2, by simpa only [List.append_assoc] using HR4.out⟩, HM3.out.trans HM4.out⟩
            · have b3 : (decide (mid < en) && decide (en < k)) = false := by simp; omega
              have hRs : Sorted Parcel.sum (u2 ++ v2) := by
                by_cases h : mid < en
                · have : v2 = [] := List.eq_nil_of_length_eq_zero (by have := HV2.out; omega)
                  rw [this, List.append_nil]; exact HSU.out.2.1
                · have : u2 = [] := List.eq_nil_of_length_eq_zero (by have := HU2.out; have := HEN.out; omega)
                  rw [this]; exact HSV.out.2.1
              have HRS := Lib.hid hRs; clear hRs
              go_wp2_with fail
              all_goals
                go_end0
                obtain ⟨q1, q2⟩ := HJOIN.out L (u2 ++ v2) HL.out.1 HRS.out HL.out.2 (FEq.refl _ _)
                exact ⟨rfl, ⟨L ++ (u2 ++ v2), q1, q2, HR3.out⟩, HM3.out⟩
        · have b1 : (decide (st < m) && decide (m < en)) = false := by simp; omega
          have hR2 : RowQ wr base b n cap (p ++ ((u1 ++ v1) ++ (u2 ++ v2)) ++ r) := by
            have h0 := HROW.out
            by_cases h : st < m
            · have : v1 = [] := List.eq_nil_of_length_eq_zero (by have := HV1.out; have := HEN.out; omega)
              rw [this] at h0 ⊢; simpa using h0
            · have : u2 = [] := List.eq_nil_of_length_eq_zero (by have := HU2.out; omega)
              rw [this] at h0 ⊢; simpa using h0
          have HR2 := Lib.hid hR2; have HM2 := HMW
          clear hR2
          obtain ⟨w2, hw2⟩ : ∃ w2, w2 = wr := ⟨_, rfl⟩
          subst hw2
          by_cases c2 : i < st ∧ st < mid
          · obtain ⟨c2a, c2b⟩ := c2
            have b2 : (decide (i < st) && decide (st < mid)) = true := by simp; omega
            go_wp2_with fail
            refine (HIH.out base b n cap p u1 v1 ((u2 ++ v2) ++ r) w2 _ _ _ HNN.out.1 HI.out (by have := HPL.out; have := HU1.out; omega) (by have := HPL.out; have := HU1.out; have := HV1.out; omega) (by have := HU1.out; omega) (by have := HV1.out; omega) hn HSU.out.1 HSV.out.1 (by simpa only [List.append_assoc] using HR2.out)).mono ?_
            rintro e w3 ⟨rfl, ⟨L, hL1, hL2, hR3⟩, hM3⟩
            have HR3 := Lib.hid (show RowQ w3 base b n cap (p ++ (L ++ (u2 ++ v2)) ++ r) from by simpa only [List.append_assoc] using hR3)
            have HL := Lib.hid (And.intro hL1 hL2); have HM3 := Lib.hid (HM2.out.trans hM3)
            clear hL1 hL2 hR3 hM3
            by_cases c3 : mid < en ∧ en < k
            · obtain ⟨c3a, c3b⟩ := c3
              have b3 : (decide (mid < en) && decide (en < k)) = true := by simp; omega
              go_wp2_with fail
              refine (HIH.out base b n cap (p ++ L) u2 v2 r w3 _ _ _ HNN.out.2 (by have := HPL.out; have := HL.out.2.length; have := HU1.out; have := HV1.out; simp at *; omega) (by have := HPL.out; have := HL.out.2.length; have := HU1.out; have := HV1.out; have := HU2.out; have := HEN.out; simp at *; omega) (by have := HPL.out; have := HL.out.2.length; have := HU1.out; have := HV1.out; have := HU2.out; have := HV2.out; have := HEN.out; simp at *; omega) (by have := HU2.out; have := HEN.out; omega) (by have := HV2.out; omega) hn HSU.out.2.1 HSV.out.2.1 (by simpa only [List.append_assoc] using HR3.out)).mono ?_
              rintro e w4 ⟨rfl, ⟨R, hR1, hR2, hR4⟩, hM4⟩
              have HR4 := Lib.hid hR4; have HRR := Lib.hid (And.intro hR1 hR2); have HM4 := Lib.hid hM4
              clear hR1 hR2 hR4 hM4
              go_wp2_with fail
              go_end0
              obtain ⟨q1, q2⟩ := HJOIN.out L R HL.out.1 HRR.out.1 HL.out.2 HRR.out.2
              exact ⟨rfl, ⟨L ++ R, q1, q2, by simpa only [List.append_assoc] using HR4.out⟩, HM3.out.trans HM4.out⟩
            · have b3 : (decide (mid < en) && decide (en < k)) = false := by simp; omega
              have hRs : Sorted Parcel.sum (u2 ++ v2) := by
                by_cases h : mid < en
                · have : v2 = [] := List.eq_nil_of_length_eq_zero (by have := HV2.out; omega)
                  rw [this, List.append_nil]; exact HSU.out.2.1
                · have : u2 = [] := List.eq_nil_of_length_eq_zero (by have := HU2.out; have := HEN.out; omega)
                  rw [this]; exact HSV.out.2.1
              have HRS := Lib.hid hRs; clear hRs
              go_wp2_with fail
              all_goals
                go_end0
                obtain ⟨q1, q2⟩ := HJOIN.out L (u2 ++ v2) HL.out.1 HRS.out HL.out.2 (FEq.refl _ _)
                exact ⟨rfl, ⟨L ++ (u2 ++ v2), q1, q2, HR3.out⟩, HM3.out⟩
          · have b2 : (decide (i < st) && decide (st < mid)) = false := by simp; omega
            have hLs : Sorted Parcel.sum (u1 ++ v1) := by
              by_cases h : i < st
              · have : v1 = [] := List.eq_nil_of_length_eq_zero (by have := HV1.out; omega)
                rw [this, List.append_nil]; exact HSU.out.1
              · have : u1 = [] := List.eq_nil_of_length_eq_zero (by have := HU1.out; omega)
                rw [this]; exact HSV.out.1
            obtain ⟨L, HLe⟩ : ∃ L, Hid (L = u1 ++ v1) := ⟨_, rfl⟩
            have HL := Lib.hid (show Sorted Parcel.sum L ∧ FEq Parcel.sum (u1 ++ v1) L from by rw [HLe.out]; exact ⟨hLs, FEq.refl _ _⟩)
            have HR3 := Lib.hid (show RowQ w2 base b n cap (p ++ (L ++ (u2 ++ v2)) ++ r) from by rw [HLe.out]; exact HR2.out)
            have HM3 := HM2
            clear hLs
            obtain ⟨w3, hw3⟩ : ∃ w3, w3 = w2 := ⟨_, rfl⟩
            subst hw3
            by_cases c3 : mid < en ∧ en < k
            · obtain ⟨c3a, c3b⟩ := c3
              have b3 : (decide (mid < en) && decide (en < k)) = true := by simp; omega
              go_wp2_with fail
              refine (HIH.out base b n cap (p ++ L) u2 v2 r w3 _ _ _ HNN.out.2 (by have := HPL.out; have := HL.out.2.length; have := HU1.out; have := HV1.out; simp at *; omega) (by have := HPL.out; have := HL.out.2.length; have := HU1.out; have := HV1.out; have := HU2.out; have := HEN.out; simp at *; omega) (by have := HPL.out; have := HL.out.2.length; have := HU1.out; have := HV1.out; have := HU2.out; have := HV2.out; have := HEN.out; simp at *; omega) (by have := HU2.out; have := HEN.out; omega) (by have := HV2.out; omega) hn HSU.out.2.1 HSV.out.2.1 (by simpa only [List.append_assoc] using HR3.out)).mono ?_
              rintro e w4 ⟨rfl, ⟨R, hR1, hR2, hR4⟩, hM4⟩
              have HR4 := Lib.hid hR4; have HRR := Lib.hid (And.intro hR1 hR2); have HM4 := Lib.hid hM4
              clear hR1 hR2 hR4 hM4
              go_wp2_with fail
              go_end0
              obtain ⟨q1, q2⟩ := HJOIN.out L R HL.out.1 HRR.out.1 HL.out.2 HRR.out.2
              exact ⟨rfl, ⟨L ++ R, q1, q2, by simpa only [List.append_assoc] using HR4.out⟩, HM3.out.trans HM4.out⟩
            · have b3 : (decide (mid < en) && decide (en < k)) = false := by simp; omega
              have hRs : Sorted Parcel.sum (u2 ++ v2) := by
                by_cases h : mid < en
                · have : v2 = [] := List.eq_nil_of_length_eq_zero (by have := HV2.out; omega)
                  rw [this, List.append_nil]; exact HSU.out.2.1
                · have : u2 = [] := List.eq_nil_of_length_eq_zero (by have := HU2.out; have := HEN.out; omega)
                  rw [this]; exact HSV.out.2.1
              have HRS := Lib.hid hRs; clear hRs
              go_wp2_with fail
              all_goals
                go_end0
                obtain ⟨q1, q2⟩ := HJOIN.out L (u2 ++ v2) HL.out.1 HRS.out HL.out.2 (FEq.refl _ _)
                exact ⟨rfl, ⟨L ++ (u2 ++ v2), q1, q2, HR3.out⟩, HM3.out⟩
end Go.Proofs.Ytoanhnebalapeaa
