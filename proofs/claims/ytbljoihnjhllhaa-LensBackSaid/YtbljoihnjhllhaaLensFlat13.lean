/- The library's symmetrical merge, general case, and its stable sort, of parcels. -/
import Derived.Test.YtbljoihnjhllhaaLensFlat12
namespace Go.Proofs.Ytbljoihnjhllhaa
open Go.RowKit
open Go.Proofs.YtbljoihnjhllhaaW.PrintWords
open Srt

/-- What a symmetrical merge does, at segments of at most N elements. -/
def SymMergeQ (N : Nat) : Prop := ∀ (base b n cap : Nat) (p s1 s2 r : List Parcel) (w : World) (i m k : Nat), s1.length + s2.length ≤ N → i = p.length → m = p.length + s1.length → k = p.length + s1.length + s2.length → 0 < s1.length → 0 < s2.length → n ≤ 70368744177664 →
    Sorted Parcel.sum s1 → Sorted Parcel.sum s2 → RowQ w base b n cap (p ++ (s1 ++ s2) ++ r) →
    Calls Try.prog 75 #[.slice (some ⟨b, 0, none⟩) n cap, .int .i64 (i : Nat), .int .i64 (m : Nat), .int .i64 (k : Nat), lessV] w
      fun e w' => e = .returned (.tuple #[]) ∧ (∃ s', Sorted Parcel.sum s' ∧ FEq Parcel.sum (s1 ++ s2) s' ∧ RowQ w' base b n cap (p ++ s' ++ r)) ∧ Mods [b] w w'

set_option maxRecDepth 100000 in
set_option maxHeartbeats 4000000 in
theorem symMergeQC (N : Nat) (IH : SymMergeQ N) (base b n cap : Nat) (p s1 s2 r : List Parcel) (w : World) (i m k : Nat) (hN : s1.length + s2.length ≤ N + 1) (hi : i = p.length) (hm : m = p.length + s1.length) (hk : k = p.length + s1.length + s2.length) (h1 : 2 ≤ s1.length) (h2 : 2 ≤ s2.length) (hn : n ≤ 70368744177664)
    (hs1 : Sorted Parcel.sum s1) (hs2 : Sorted Parcel.sum s2) (H : RowQ w base b n cap (p ++ (s1 ++ s2) ++ r)) :
    Calls Try.prog 75 #[.slice (some ⟨b, 0, none⟩) n cap, .int .i64 (i : Nat), .int .i64 (m : Nat), .int .i64 (k : Nat), lessV] w
      fun e w' => e = .returned (.tuple #[]) ∧ (∃ s', Sorted Parcel.sum s' ∧ FEq Parcel.sum (s1 ++ s2) s' ∧ RowQ w' base b n cap (p ++ s' ++ r)) ∧ Mods [b] w w' := by
  have hlen := H.length
  simp only [List.length_append] at hlen
  have HIH := Lib.hid IH; have HR := Lib.hid H; have HS1 := Lib.hid hs1; have HS2 := Lib.hid hs2
  have h0 : i + 2 ≤ m ∧ m + 2 ≤ k ∧ k ≤ n := by omega
  obtain ⟨h3, h4, h5⟩ := h0
  have HI := Lib.hid hi; have HK := Lib.hid hk; have HL := Lib.hid hlen; have HMM := Lib.hid hm
  clear IH H hi hk hlen hs1 hs2 hm
  have hm1 : ((m : Int) - (i : Int) == 1) = false := by simp; omega
  have hm2 : ((k : Int) - (m : Int) == 1) = false := by simp; omega
  obtain ⟨mid, hmid⟩ : ∃ mid, mid = (i + k) / 2 := ⟨_, rfl⟩
  have emid : ((i : Int) + (k : Int)) / 2 = (mid : Int) := by omega
  have hmb1 : i + k ≤ 2 * mid + 1 ∧ 2 * mid ≤ i + k := by omega
  obtain ⟨lo, hi, hcase⟩ : ∃ lo hi, (mid < m ∧ lo + k = mid + m ∧ hi = mid) ∨ (m ≤ mid ∧ lo = i ∧ hi = m) := by
    by_cases h : mid < m
    · exact ⟨mid + m - k, mid, .inl ⟨h, by omega, rfl⟩⟩
    · exact ⟨i, m, .inr ⟨by omega, rfl, rfl⟩⟩
  have hF : i ≤ lo ∧ lo ≤ hi ∧ hi ≤ mid ∧ hi ≤ m ∧ mid + m ≤ lo + k ∧ mid < k := by omega
  obtain ⟨f1, f2, f3, f4, f5, f6⟩ := hF
  have hs1l : s1.length = m - i := by have := HMM.out; have := HI.out; omega
  have hs2l : s2.length = k - m := by have := HMM.out; have := HK.out; omega
  have HS1L := Lib.hid hs1l; have HS2L := Lib.hid hs2l; have HMID := Lib.hid hmid; have HCASE := Lib.hid hcase
  clear hmid hs1l hs2l hcase
  obtain ⟨dm, hdm, HDM⟩ : ∃ dm, decide (mid < m) = dm ∧ Hid ((dm = true → mid < m) ∧ (dm = false → m ≤ mid)) := ⟨_, rfl, by constructor <;> intro h <;> simpa using h⟩
  cases dm
  all_goals
    go_enter Try.func75, Try.ntmps75
    go_wp2_with fail
    go_loopw [20, 21, 23] (fun u v h wr => ∃ (st rr : Nat), u = .int .i64 (st : Nat) ∧ v = .int .i64 (rr : Nat) ∧ lo ≤ st ∧ st ≤ rr ∧ rr ≤ hi ∧
      Hid (lo < st → ∃ x y, s1[st - 1 - i]? = some x ∧ s2[mid - st]? = some y ∧ Parcel.sum x ≤ Parcel.sum y) ∧
      Hid (rr < hi → ∃ x y, s1[rr - i]? = some x ∧ s2[mid - rr - 1]? = some y ∧ Parcel.sum y < Parcel.sum x) ∧ Hid (Mods [] w wr)) (fun u v _ _ => (intOf v - intOf u).toNat)
    case atStart =>
      refine ⟨lo, hi, ?_, ?_, Nat.le_refl _, f2, Nat.le_refl _, fun h => absurd h (by omega), fun h => absurd h (by omega), Mods.refl _ _⟩
      · have := HCASE.out; have := HDM.out; simp at this; congr 1; omega
      · have := HCASE.out; have := HDM.out; simp at this; congr 1; omega
    case round =>
      obtain ⟨st, rr, rfl, rfl, g1, g2, g3, HLO, HHI, HQ⟩ := hrel
      have HRW := Lib.hid (show RowQ wr base b n cap (p ++ (s1 ++ s2) ++ r) from HR.out.mods HQ.out (by simp))
      have HMW := Lib.hid (show Mods [b] w wr from HQ.out.mono (by simp))
      by_cases hlt : st < rr
      · have hh2 : (st + rr) / 2 < rr := by omega
        have hh3 : st ≤ (st + rr) / 2 := by omega
        generalize hh : (st + rr) / 2 = h at *
        have ehh : ((st : Int) + (rr : Int)) / 2 = (h : Int) := by omega
        have HH := Lib.hid hh; clear hh
        have hpl : p.length = i := HI.out.symm
        obtain ⟨j, hj⟩ : ∃ j, j = mid + m - 1 - h := ⟨_, rfl⟩
        have ej : (mid : Int) + (m : Int) - 1 - (h : Int) = (j : Int) := by omega
        have hjn : m ≤ j ∧ j < n ∧ h < n := by omega
        obtain ⟨j1, j2, j3⟩ := hjn
        have hjs : j - m < s2.length := by have := HS2L.out; omega
        have hhs : h - i < s1.length := by have := HS1L.out; omega
        obtain ⟨x, hx⟩ : ∃ x, s1[h - i]? = some x := ⟨_, List.getElem?_eq_getElem hhs⟩
        obtain ⟨y, hy⟩ : ∃ y, s2[j - m]? = some y := ⟨_, List.getElem?_eq_getElem hjs⟩
        have hr := HRW.out
        have ex : (p ++ (s1 ++ s2) ++ r)[h]? = some x := by
          rw [List.append_assoc, List.getElem?_append_right (by omega), List.append_assoc, List.getElem?_append_left (by omega), show h - p.length = h - i from by omega]
          exact hx
        have ey : (p ++ (s1 ++ s2) ++ r)[j]? = some y := by
          have := HMM.out
          rw [List.append_assoc, List.getElem?_append_right (by omega), List.append_assoc, List.getElem?_append_right (by omega), List.getElem?_append_left (by omega), show j - p.length - s1.length = j - m from by omega]
          exact hy
        obtain ⟨hc1, hc1', hf1, hf1'⟩ := hr.at _ _ ex
        obtain ⟨hc2, hc2', hf2, hf2'⟩ := hr.at _ _ ey
        have HR3 := Lib.hid hr; have HPL := Lib.hid hpl; have HX := Lib.hid hx; have HY := Lib.hid hy; have HJ := Lib.hid hj
        clear hr ex ey hpl hx hy hj
        have hne0 := World.new_ne wr _ hc1; have hne1 := World.new_ne wr _ hc1'; have hne2 := World.new_ne wr _ hc2; have hne3 := World.new_ne wr _ hc2'
        have hi1 : (h : Int) < (n : Int) := by omega
        have hi2 : (j : Int) < (n : Int) := by omega
        have hw : IntKind.i64.wrap ((mid : Int) + (m : Int) - 1 - (h : Int)) = (j : Int) := by rw [IntWalk.i64_in _ (by omega)]; omega
        have hw2 : IntKind.i64.wrap (j : Int) = (j : Int) := by rw [IntWalk.i64_in _ (by omega)]
        have hi3 : (0 : Int) ≤ (j : Int) := by omega
        have hi4 : ((j : Int)).toNat = j := by omega
        by_cases hk : y.sum < x.sum
        · have HKK : Hid (y.sum < x.sum) := Lib.hid (show y.sum < x.sum from hk)
          have hcmp := cmpS_yes hk
          go_wp2_with fail
          go_region_held3 (fun w' => w'.cell? ⟨b, j * 2, none⟩ = some (.int .i64 y.sum) ∧ w'.cell? ⟨b, j * 2 + 1, none⟩ = some (.slice y.A y.n y.c) ∧ w'.cell? ⟨b, h * 2, none⟩ = some (.int .i64 x.sum) ∧ w'.cell? ⟨b, h * 2 + 1, none⟩ = some (.slice x.A x.n x.c)) (go_keep) ((go_at_call 61; refine (less1 _ _ _ _ _).mono ?_; rintro e w' ⟨rfl, rfl⟩))
          have hMw : Mods [] wr (((wr.alloc (.cells #[.int .i64 y.sum, .slice y.A y.n y.c] 93)).alloc (.cells #[.int .i64 x.sum, .slice x.A x.n x.c] 93)).drew) := (((Mods.refl [] wr).alloc _).alloc _).drew
          generalize hwc : ((wr.alloc (.cells #[.int .i64 y.sum, .slice y.A y.n y.c] 93)).alloc (.cells #[.int .i64 x.sum, .slice x.A x.n x.c] 93)).drew = wc at *
          have HMc := Lib.hid (HQ.out.trans hMw)
          clear hwc hMw hc1 hc1' hc2 hc2' hf1 hf1' hf2 hf2' hne0 hne1 hne2 hne3
          go_wp2_with fail
          go_roundw
          case rel =>
            refine ⟨st, h, rfl, rfl, g1, by omega, by omega, HLO, ?_, ?_⟩
            · exact fun _ => ⟨x, y, HX.out, by have h1 := HY.out; have := HJ.out; rw [show j - m = mid - h - 1 from by omega] at h1; exact h1, HKK.out⟩
            · exact HMc.out
          case measure => simp [intOf]; omega
        · have HKK : Hid (x.sum ≤ y.sum) := Lib.hid (show x.sum ≤ y.sum from by omega)
          have hcmp := cmpS_no hk
          go_wp2_with fail
          go_region_held3 (fun w' => w'.cell? ⟨b, j * 2, none⟩ = some (.int .i64 y.sum) ∧ w'.cell? ⟨b, j * 2 + 1, none⟩ = some (.slice y.A y.n y.c) ∧ w'.cell? ⟨b, h * 2, none⟩ = some (.int .i64 x.sum) ∧ w'.cell? ⟨b, h * 2 + 1, none⟩ = some (.slice x.A x.n x.c)) (go_keep) ((go_at_call 61; refine (less1 _ _ _ _ _).mono ?_; rintro e w' ⟨rfl, rfl⟩))
          have hMw : Mods [] wr (((wr.alloc (.cells #[.int .i64 y.sum, .slice y.A y.n y.c] 93)).alloc (.cells #[.int .i64 x.sum, .slice x.A x.n x.c] 93)).drew) := (((Mods.refl [] wr).alloc _).alloc _).drew
          generalize hwc : ((wr.alloc (.cells #[.int .i64 y.sum, .slice y.A y.n y.c] 93)).alloc (.cells #[.int .i64 x.sum, .slice x.A x.n x.c] 93)).drew = wc at *
          have HMc := Lib.hid (HQ.out.trans hMw)
          clear hwc hMw hc1 hc1' hc2 hc2' hf1 hf1' hf2 hf2' hne0 hne1 hne2 hne3
          go_wp2_with fail
          go_roundw
          case rel =>
            refine ⟨h + 1, rr, by go_num, rfl, by omega, by omega, by omega, ?_, HHI, ?_⟩
            · exact fun _ => ⟨x, y, by rw [show h + 1 - 1 - i = h - i from by omega]; exact HX.out, by have h1 := HY.out; have := HJ.out; rw [show j - m = mid - (h + 1) from by omega] at h1; exact h1, HKK.out⟩
            · exact HMc.out
          case measure => simp [intOf]; omega
      · have hsr : st = rr := by omega
        subst hsr
        obtain ⟨en, hen⟩ : ∃ en, en = mid + m - st := ⟨_, rfl⟩
        have een : (mid : Int) + (m : Int) - (st : Int) = (en : Int) := by omega
        have henb : m ≤ en ∧ en ≤ k ∧ st ≤ m ∧ st ≤ mid ∧ i ≤ st ∧ mid ≤ en := by omega
        obtain ⟨e1, e2, e3, e4, e5, e6⟩ := henb
        have hpl : p.length = i := HI.out.symm
        obtain ⟨u1, u2, hu, hu1, hu2⟩ : ∃ u1 u2, s1 = u1 ++ u2 ∧ u1.length = st - i ∧ u2.length = m - st := ⟨s1.take (st - i), s1.drop (st - i), by simp, by have := HS1L.out; simp; omega, by have := HS1L.out; simp; omega⟩
        obtain ⟨v1, v2, hv, hv1, hv2⟩ : ∃ v1 v2, s2 = v1 ++ v2 ∧ v1.length = mid - st ∧ v2.length = k - en := ⟨s2.take (mid - st), s2.drop (mid - st), by simp, by have := HS2L.out; simp; omega, by have := HS2L.out; simp; omega⟩
        have hu1' : u1 = s1.take (st - i) := by rw [hu, ← hu1]; simp
        have hu2' : u2 = s1.drop (st - i) := by rw [hu, ← hu1]; simp
        have hv1' : v1 = s2.take (mid - st) := by rw [hv, ← hv1]; simp
        have hv2' : v2 = s2.drop (mid - st) := by rw [hv, ← hv1]; simp
        have hd9 := HDM.out
        simp at hd9
        have hord1 : ∀ a ∈ u1, ∀ c ∈ v2, Parcel.sum a ≤ Parcel.sum c := by
          by_cases h : lo < st
          · obtain ⟨x, y, hx, hy, hxy⟩ := HLO.out h
            intro a ha c hc
            rw [hu1'] at ha
            rw [hv2'] at hc
            have q1 := sorted_take HS1.out hx a (by rw [show st - 1 - i + 1 = st - i from by omega]; exact ha)
            have q2 := sorted_drop HS2.out hy c hc
            omega
          · rcases HCASE.out with ⟨_, hc1, _⟩ | ⟨_, hc1, _⟩
            · have : v2 = [] := List.eq_nil_of_length_eq_zero (by omega)
              rw [this]; simp
            · have : u1 = [] := List.eq_nil_of_length_eq_zero (by omega)
              rw [this]; simp
        have hord2 : ∀ a ∈ u2, ∀ c ∈ v1, Parcel.sum c < Parcel.sum a := by
          by_cases h : st < hi
          · obtain ⟨x, y, hx, hy, hxy⟩ := HHI.out h
            intro a ha c hc
            rw [hu2'] at ha
            rw [hv1'] at hc
            have q1 := sorted_drop HS1.out hx a ha
            have q2 := sorted_take HS2.out hy c (by rw [show mid - st - 1 + 1 = mid - st from by omega]; exact hc)
            omega
          · rcases HCASE.out with ⟨_, _, hc1⟩ | ⟨_, _, hc1⟩
            · have : v1 = [] := List.eq_nil_of_length_eq_zero (by omega)
              rw [this]; simp
            · have : u2 = [] := List.eq_nil_of_length_eq_zero (by omega)
              rw [this]; simp
        have hsu : Sorted Parcel.sum (u1 ++ u2) := by rw [← hu]; exact HS1.out
        have hsv : Sorted Parcel.sum (v1 ++ v2) := by rw [← hv]; exact HS2.out
        have hjoin : ∀ L R, Sorted Parcel.sum L → Sorted Parcel.sum R → FEq Parcel.sum (u1 ++ v1) L → FEq Parcel.sum (u2 ++ v2) R → Sorted Parcel.sum (L ++ R) ∧ FEq Parcel.sum (s1 ++ s2) (L ++ R) := fun L R a b c d => by
          rw [hu, hv]; exact merge_join hsu hsv hord1 hord2 a b c d
        have hrow := HRW.out
        rw [hu, hv] at hrow
        have HROW := Lib.hid hrow; have HJOIN := Lib.hid hjoin; have HSU := Lib.hid (sorted_app.1 hsu); have HSV := Lib.hid (sorted_app.1 hsv)
        have HPL := Lib.hid hpl; have HU1 := Lib.hid hu1; have HU2 := Lib.hid hu2; have HV1 := Lib.hid hv1; have HV2 := Lib.hid hv2; have HEN := Lib.hid hen
        have hNN : u1.length + v1.length ≤ N ∧ u2.length + v2.length ≤ N := by have := HS1L.out; have := HS2L.out; constructor <;> omega
        have HNN := Lib.hid hNN
        clear hrow hjoin hsu hsv hord1 hord2 hu1' hu2' hv1' hv2' hu hv hu1 hu2 hv1 hv2 hpl hen hNN hd9 hlt
        by_cases c1 : st < m ∧ m < en
        · obtain ⟨c1a, c1b⟩ := c1
          have b1 : (decide (st < m) && decide (m < en)) = true := by simp; omega
          go_wp2_with fail
          refine (rotateQ base b n cap _ (p ++ u1) u2 v1 (v2 ++ r) _ _ _ _ (by have := HPL.out; have := HU1.out; simp; omega) (by have := HPL.out; have := HU1.out; have := HU2.out; simp; omega) (by have := HPL.out; have := HU1.out; have := HU2.out; have := HV1.out; have := HEN.out; simp; omega) hn (by have := HU2.out; omega) (by have := HV1.out; have := HEN.out; omega) (by simpa only [List.append_assoc] using HROW.out)).mono ?_
          rintro e w2 ⟨rfl, hR2, hM2⟩
          have HR2 := Lib.hid (show RowQ w2 base b n cap (p ++ ((u1 ++ v1) ++ (u2 ++ v2)) ++ r) from by simpa only [List.append_assoc] using hR2)
          have HM2 := Lib.hid (HMW.out.trans hM2)
          clear hR2 hM2
          by_cases c2 : i < st ∧ st < mid
          · obtain ⟨c2a, c2b⟩ := c2
            have b2 : (decide (i < st) && decide (st < mid)) = true := by simp; omega
            go_wp2_with fail
            refine (HIH.out base b n cap p u1 v1 ((u2 ++ v2) ++ r) w2 _ _ _ HNN.out.1 HI.out (by have := HPL.out; have := HU1.out; omega) (by have := HPL.out; have := HU1.out; have := HV1.out; omega) (by have := HU1.out; omega) (by have := HV1.out; omega) hn HSU.out.1 HSV.out.1 (by simpa only [List.append_assoc] using HR2.out)).mono ?_
            rintro e w3 ⟨rfl, ⟨L, hL1, hL2, hR3⟩, hM3⟩
            have HR3 := Lib.hid (show RowQ w3 base b n cap (p ++ (L ++ (u2 ++ v2)) ++ r) from by simpa only [List.append_assoc] using hR3)
            have HL := Lib.hid (And.intro hL1 hL2); have HM3 := Lib.hid (HM2.out.trans hM3)
            clear hL1 hL2 hR3 hM3
            by_cases c3 : mid < en ∧ en < k
            · obtain ⟨c3a, c3b⟩ := c3
              have b3 : (decide (mid < en) && decide (en < k)) = true := by simp; omega
              go_wp2_with fail
              refine (HIH.out base b n cap (p ++ L) u2 v2 r w3 _ _ _ HNN.out.2 (by have := HPL.out; have := HL.out.2.length; have := HU1.out; have := HV1.out; simp at *; omega) (by have := HPL.out; have := HL.out.2.length; have := HU1.out; have := HV1.out; have := HU2.out; have := HEN.out; simp at *; omega) (by have := HPL.out; have := HL.out.2.length; have := HU1.out; have := HV1.out; have := HU2.out; have := HV2.out; have := HEN.out; simp at *; omega) (by have := HU2.out; have := HEN.out; omega) (by have := HV2.out; omega) hn HSU.out.2.1 HSV.out.2.1 (by simpa only [List.append_assoc] using HR3.out)).mono ?_
              rintro e w4 ⟨rfl, ⟨R, hR1, hR2, hR4⟩, hM4⟩
              have HR4 := Lib.hid hR4; have HRR := Lib.hid (And.intro hR1 hR2); have HM4 := Lib.hid hM4
              clear hR1 hR2 hR4 hM4
              go_wp2_with fail
              go_end0
              obtain ⟨q1, q2⟩ := HJOIN.out L R HL.out.1 HRR.out.1 HL.out.2 HRR.out.2
              exact ⟨rfl, ⟨L ++ R, q1, q2, by simpa only [List.append_assoc] using HR4.out⟩, HM3.out.trans HM4.out⟩
            · have b3 : (decide (mid < en) && decide (en < k)) = false := by simp; omega
              have hRs : Sorted Parcel.sum (u2 ++ v2) := by
                by_cases h : mid < en
                · have : v2 = [] := List.eq_nil_of_length_eq_zero (by have := HV2.out; omega)
                  rw [this, List.append_nil]; exact HSU.out.2.1
                · have : u2 = [] := List.eq_nil_of_length_eq_zero (by have := HU2.out; have := HEN.out; omega)
                  rw [this]; exact HSV.out.2.1
              have HRS := Lib.hid hRs; clear hRs
              go_wp2_with fail
              all_goals
                go_end0
                obtain ⟨q1, q2⟩ := HJOIN.out L (u2 ++ v2) HL.out.1 HRS.out HL.out.2 (FEq.refl _ _)
                exact ⟨rfl, ⟨L ++ (u2 ++ v2), q1, q2, HR3.out⟩, HM3.out⟩
          · have b2 : (decide (i < st) && decide (st < mid)) = false := by simp; omega
            have hLs : Sorted Parcel.sum (u1 ++ v1) := by
              by_cases h : i < st
              · have : v1 = [] := List.eq_nil_of_length_eq_zero (by have := HV1.out; omega)
                rw [this, List.append_nil]; exact HSU.out.1
              · have : u1 = [] := List.eq_nil_of_length_eq_zero (by have := HU1.out; omega)
                rw [this]; exact HSV.out.1
            obtain ⟨L, HLe⟩ : ∃ L, Hid (L = u1 ++ v1) := ⟨_, rfl⟩
            have HL := Lib.hid (show Sorted Parcel.sum L ∧ FEq Parcel.sum (u1 ++ v1) L from by rw [HLe.out]; exact ⟨hLs, FEq.refl _ _⟩)
            have HR3 := Lib.hid (show RowQ w2 base b n cap (p ++ (L ++ (u2 ++ v2)) ++ r) from by rw [HLe.out]; exact HR2.out)
            have HM3 := HM2
            clear hLs
            obtain ⟨w3, hw3⟩ : ∃ w3, w3 = w2 := ⟨_, rfl⟩
            subst hw3
            by_cases c3 : mid < en ∧ en < k
            · obtain ⟨c3a, c3b⟩ := c3
              have b3 : (decide (mid < en) && decide (en < k)) = true := by simp; omega
              go_wp2_with fail
              refine (HIH.out base b n cap (p ++ L) u2 v2 r w3 _ _ _ HNN.out.2 (by have := HPL.out; have := HL.out.2.length; have := HU1.out; have := HV1.out; simp at *; omega) (by have := HPL.out; have := HL.out.2.length; have := HU1.out; have := HV1.out; have := HU2.out; have := HEN.out; simp at *; omega) (by have := HPL.out; have := HL.out.2.length; have := HU1.out; have := HV1.out; have := HU2.out; have := HV2.out; have := HEN.out; simp at *; omega) (by have := HU2.out; have := HEN.out; omega) (by have := HV2.out; omega) hn HSU.out.2.1 HSV.out.2.1 (by simpa only [List.append_assoc] using HR3.out)).mono ?_
              rintro e w4 ⟨rfl, ⟨R, hR1, hR2, hR4⟩, hM4⟩
              have HR4 := Lib.hid hR4; have HRR := Lib.hid (And.intro hR1 hR2); have HM4 := Lib.hid hM4
              clear hR1 hR2 hR4 hM4
              go_wp2_with fail
              go_end0
              obtain ⟨q1, q2⟩ := HJOIN.out L R HL.out.1 HRR.out.1 HL.out.2 HRR.out.2
              exact ⟨rfl, ⟨L ++ R, q1, q2, by simpa only [List.append_assoc] using HR4.out⟩, HM3.out.trans HM4.out⟩
            · have b3 : (decide (mid < en) && decide (en < k)) = false := by simp; omega
              have hRs : Sorted Parcel.sum (u2 ++ v2) := by
                by_cases h : mid < en
                · have : v2 = [] := List.eq_nil_of_length_eq_zero (by have := HV2.out; omega)
                  rw [this, List.append_nil]; exact HSU.out.2.1
                · have : u2 = [] := List.eq_nil_of_length_eq_zero (by have := HU2.out; have := HEN.out; omega)
                  rw [this]; exact HSV.out.2.1
              have HRS := Lib.hid hRs; clear hRs
              go_wp2_with fail
              all_goals
                go_end0
                obtain ⟨q1, q2⟩ := HJOIN.out L (u2 ++ v2) HL.out.1 HRS.out HL.out.2 (FEq.refl _ _)
                exact ⟨rfl, ⟨L ++ (u2 ++ v2), q1, q2, HR3.out⟩, HM3.out⟩
        · have b1 : (decide (st < m) && decide (m < en)) = false := by simp; omega
          have hR2 : RowQ wr base b n cap (p ++ ((u1 ++ v1) ++ (u2 ++ v2)) ++ r) := by
            have h0 := HROW.out
            by_cases h : st < m
            · have : v1 = [] := List.eq_nil_of_length_eq_zero (by have := HV1.out; have := HEN.out; omega)
              rw [this] at h0 ⊢; simpa using h0
            · have : u2 = [] := List.eq_nil_of_length_eq_zero (by have := HU2.out; omega)
              rw [this] at h0 ⊢; simpa using h0
          have HR2 := Lib.hid hR2; have HM2 := HMW
          clear hR2
          obtain ⟨w2, hw2⟩ : ∃ w2, w2 = wr := ⟨_, rfl⟩
          subst hw2
          by_cases c2 : i < st ∧ st < mid
          · obtain ⟨c2a, c2b⟩ := c2
            have b2 : (decide (i < st) && decide (st < mid)) = true := by simp; omega
            go_wp2_with fail
            refine (HIH.out base b n cap p u1 v1 ((u2 ++ v2) ++ r) w2 _ _ _ HNN.out.1 HI.out (by have := HPL.out; have := HU1.out; omega) (by have := HPL.out; have := HU1.out; have := HV1.out; omega) (by have := HU1.out; omega) (by have := HV1.out; omega) hn HSU.out.1 HSV.out.1 (by simpa only [List.append_assoc] using HR2.out)).mono ?_
            rintro e w3 ⟨rfl, ⟨L, hL1, hL2, hR3⟩, hM3⟩
            have HR3 := Lib.hid (show RowQ w3 base b n cap (p ++ (L ++ (u2 ++ v2)) ++ r) from by simpa only [List.append_assoc] using hR3)
            have HL := Lib.hid (And.intro hL1 hL2); have HM3 := Lib.hid (HM2.out.trans hM3)
            clear hL1 hL2 hR3 hM3
            by_cases c3 : mid < en ∧ en < k
            · obtain ⟨c3a, c3b⟩ := c3
              have b3 : (decide (mid < en) && decide (en < k)) = true := by simp; omega
              go_wp2_with fail
              refine (HIH.out base b n cap (p ++ L) u2 v2 r w3 _ _ _ HNN.out.2 (by have := HPL.out; have := HL.out.2.length; have := HU1.out; have := HV1.out; simp at *; omega) (by have := HPL.out; have := HL.out.2.length; have := HU1.out; have := HV1.out; have := HU2.out; have := HEN.out; simp at *; omega) (by have := HPL.out; have := HL.out.2.length; have := HU1.out; have := HV1.out; have := HU2.out; have := HV2.out; have := HEN.out; simp at *; omega) (by have := HU2.out; have := HEN.out; omega) (by have := HV2.out; omega) hn HSU.out.2.1 HSV.out.2.1 (by simpa only [List.append_assoc] using HR3.out)).mono ?_
              rintro e w4 ⟨rfl, ⟨R, hR1, hR2, hR4⟩, hM4⟩
              have HR4 := Lib.hid hR4; have HRR := Lib.hid (And.intro hR1 hR2); have HM4 := Lib.hid hM4
              clear hR1 hR2 hR4 hM4
              go_wp2_with fail
              go_end0
              obtain ⟨q1, q2⟩ := HJOIN.out L R HL.out.1 HRR.out.1 HL.out.2 HRR.out.2
              exact ⟨rfl, ⟨L ++ R, q1, q2, by simpa only [List.append_assoc] using HR4.out⟩, HM3.out.trans HM4.out⟩
            · have b3 : (decide (mid < en) && decide (en < k)) = false := by simp; omega
              have hRs : Sorted Parcel.sum (u2 ++ v2) := by
                by_cases h : mid < en
                · have : v2 = [] := List.eq_nil_of_length_eq_zero (by have := HV2.out; omega)
                  rw [this, List.append_nil]; exact HSU.out.2.1
                · have : u2 = [] := List.eq_nil_of_length_eq_zero (by have := HU2.out; have := HEN.out; omega)
                  rw [this]; exact HSV.out.2.1
              have HRS := Lib.hid hRs; clear hRs
              go_wp2_with fail
              all_goals
                go_end0
                obtain ⟨q1, q2⟩ := HJOIN.out L (u2 ++ v2) HL.out.1 HRS.out HL.out.2 (FEq.refl _ _)
                exact ⟨rfl, ⟨L ++ (u2 ++ v2), q1, q2, HR3.out⟩, HM3.out⟩
          · have b2 : (decide (i < st) && decide (st < mid)) = false := by simp; omega
            have hLs : Sorted Parcel.sum (u1 ++ v1) := by
              by_cases h : i < st
              · have : v1 = [] := List.eq_nil_of_length_eq_zero (by have := HV1.out; omega)
                rw [this, List.append_nil]; exact HSU.out.1
              · have : u1 = [] := List.eq_nil_of_length_eq_zero (by have := HU1.out; omega)
                rw [this]; exact HSV.out.1
            obtain ⟨L, HLe⟩ : ∃ L, Hid (L = u1 ++ v1) := ⟨_, rfl⟩
            have HL := Lib.hid (show Sorted Parcel.sum L ∧ FEq Parcel.sum (u1 ++ v1) L from by rw [HLe.out]; exact ⟨hLs, FEq.refl _ _⟩)
            have HR3 := Lib.hid (show RowQ w2 base b n cap (p ++ (L ++ (u2 ++ v2)) ++ r) from by rw [HLe.out]; exact HR2.out)
            have HM3 := HM2
            clear hLs
            obtain ⟨w3, hw3⟩ : ∃ w3, w3 = w2 := ⟨_, rfl⟩
            subst hw3
            by_cases c3 : mid < en ∧ en < k
            · obtain ⟨c3a, c3b⟩ := c3
              have b3 : (decide (mid < en) && decide (en < k)) = true := by simp; omega
              go_wp2_with fail
              refine (HIH.out base b n cap (p ++ L) u2 v2 r w3 _ _ _ HNN.out.2 (by have := HPL.out; have := HL.out.2.length; have := HU1.out; have := HV1.out; simp at *; omega) (by have := HPL.out; have := HL.out.2.length; have := HU1.out; have := HV1.out; have := HU2.out; have := HEN.out; simp at *; omega) (by have := HPL.out; have := HL.out.2.length; have := HU1.out; have := HV1.out; have := HU2.out; have := HV2.out; have := HEN.out; simp at *; omega) (by have := HU2.out; have := HEN.out; omega) (by have := HV2.out; omega) hn HSU.out.2.1 HSV.out.2.1 (by simpa only [List.append_assoc] using HR3.out)).mono ?_
              rintro e w4 ⟨rfl, ⟨R, hR1, hR2, hR4⟩, hM4⟩
              have HR4 := Lib.hid hR4; have HRR := Lib.hid (And.intro hR1 hR2); have HM4 := Lib.hid hM4
              clear hR1 hR2 hR4 hM4
              go_wp2_with fail
              go_end0
              obtain ⟨q1, q2⟩ := HJOIN.out L R HL.out.1 HRR.out.1 HL.out.2 HRR.out.2
              exact ⟨rfl, ⟨L ++ R, q1, q2, by simpa only [List.append_assoc] using HR4.out⟩, HM3.out.trans HM4.out⟩
            · have b3 : (decide (mid < en) && decide (en < k)) = false := by simp; omega
              have hRs : Sorted Parcel.sum (u2 ++ v2) := by
                by_cases h : mid < en
                · have : v2 = [] := List.eq_nil_of_length_eq_zero (by have := HV2.out; omega)
                  rw [this, List.append_nil]; exact HSU.out.2.1
                · have : u2 = [] := List.eq_nil_of_length_eq_zero (by have := HU2.out; have := HEN.out; omega)
                  rw [this]; exact HSV.out.2.1
              have HRS := Lib.hid hRs; clear hRs
              go_wp2_with fail
              all_goals
                go_end0
                obtain ⟨q1, q2⟩ := HJOIN.out L (u2 ++ v2) HL.out.1 HRS.out HL.out.2 (FEq.refl _ _)
                exact ⟨rfl, ⟨L ++ (u2 ++ v2), q1, q2, HR3.out⟩, HM3.out⟩
end Go.Proofs.Ytbljoihnjhllhaa

/- The library's stable sort of parcels. -/
namespace Go.Proofs.Ytbljoihnjhllhaa
open Go.RowKit
open Go.Proofs.YtbljoihnjhllhaaW.PrintWords
open Srt

theorem symMergeQ (N : Nat) : SymMergeQ N := by
  induction N with
  | zero => intro base b n cap p s1 s2 r w i m k hN hi hm hk h1 h2; omega
  | succ N ih =>
    intro base b n cap p s1 s2 r w i m k hN hi hm hk h1 h2 hn hs1 hs2 H
    by_cases e1 : s1.length = 1
    · obtain ⟨x, rfl⟩ := List.length_eq_one_iff.1 e1
      simp only [List.length_cons, List.length_nil] at hm hk
      exact symMergeQA base b n cap p s2 r x w i m k hi (by omega) (by omega) hn hs2 H
    · by_cases e2 : s2.length = 1
      · obtain ⟨x, rfl⟩ := List.length_eq_one_iff.1 e2
        simp only [List.length_cons, List.length_nil] at hk
        exact symMergeQB base b n cap p s1 r x w i m k hi hm (by omega) (by omega) hn hs1 H
      · exact symMergeQC N ih base b n cap p s1 s2 r w i m k hN hi hm hk (by omega) (by omega) hn hs1 hs2 H

set_option maxHeartbeats 2000000 in
theorem stableQ (base b n cap : Nat) (xs : List Parcel) (w : World) (hn : n ≤ 70368744177664)
    (H : RowQ w base b n cap xs) :
    Calls Try.prog 69 #[.slice (some ⟨b, 0, none⟩) n cap, .int .i64 (n : Nat), lessV] w
      fun e w' => e = .returned (.tuple #[]) ∧ (∃ s', Sorted Parcel.sum s' ∧ FEq Parcel.sum xs s' ∧ RowQ w' base b n cap s') ∧ Mods [b] w w' := by
  have hlen := H.length
  have HR := Lib.hid H; have HL := Lib.hid hlen
  clear H hlen
  go_enter Try.func69, Try.ntmps69
  go_wp2_with fail
  go_loopw [7, 8] (fun x y wr => ∃ (a : Nat) (Rs : List (List Parcel)) (T : List Parcel), x = .int .i64 (a : Nat) ∧ y = .int .i64 ((a : Int) + 20) ∧ a ≤ n ∧ Hid (Rs.flatten.length = a ∧ a + T.length = n ∧ Full Parcel.sum 20 Rs ∧ FEq Parcel.sum xs (Rs.flatten ++ T)) ∧ Hid (RowQ wr base b n cap (Rs.flatten ++ T)) ∧ Hid (Mods [b] w wr)) (fun x _ _ => n - (intOf x).toNat)
  case atStart => exact ⟨0, [], xs, rfl, by simp, by omega, ⟨by simp, by have := HL.out; omega, Full.nil _ _, by simpa using FEq.refl _ _⟩, by simpa [Hid] using HR.out, Mods.refl _ _⟩
  case round =>
    obtain ⟨a, Rs, T, rfl, rfl, han, HF, HRW, HM⟩ := hrel
    by_cases hlt : a + 20 ≤ n
    · have hle : (a : Int) + 20 ≤ (n : Int) := by omega
      obtain ⟨t1, T', hT, ht1⟩ : ∃ t1 T', T = t1 ++ T' ∧ t1.length = 20 := ⟨T.take 20, T.drop 20, by simp, by have := HF.out.2.1; simp; omega⟩
      have HT := Lib.hid hT; have HT1 := Lib.hid ht1
      clear hT ht1
      go_wp2_with fail
      refine (insertionQ base b n cap Rs.flatten t1 T' wr _ _ (by have := HF.out.1; omega) (by have := HF.out.1; have := HT1.out; omega) hn (by have h := HRW.out; rw [HT.out] at h; simpa only [List.append_assoc] using h)).mono ?_
      rintro e w2 ⟨rfl, ⟨s', hs1, hs2, hR⟩, hM⟩
      have HS := Lib.hid (And.intro hs1 hs2); have HR2 := Lib.hid hR; have HM2 := Lib.hid hM
      clear hs1 hs2 hR hM
      go_wp2_with fail
      go_roundw
      case rel =>
        obtain ⟨q1, q2, q3, q4⟩ := HF.out
        have hsl := HS.out.2.length
        have := HT1.out
        refine ⟨a + 20, Rs ++ [s'], T', by go_num, by go_num, by omega, ⟨by rw [List.flatten_append, List.length_append, List.flatten_singleton]; omega, ?_, q3.snoc (by omega) HS.out.1, ?_⟩, by simpa [Hid] using HR2.out, HM.out.trans HM2.out⟩
        · rw [HT.out, List.length_append] at q2; omega
        · refine q4.trans ?_
          rw [HT.out]
          have h := (FEq.refl Parcel.sum Rs.flatten).app (HS.out.2.app (FEq.refl _ T'))
          simpa using h
      case measure => simp [intOf]; omega
    · have hle : ¬ (a : Int) + 20 ≤ (n : Int) := by omega
      go_wp2_with fail
      refine (insertionQ base b n cap Rs.flatten T [] wr _ _ (by have := HF.out.1; omega) (by have := HF.out.1; have := HF.out.2.1; omega) hn (by simpa using HRW.out)).mono ?_
      rintro e w2 ⟨rfl, ⟨s', hs1, hs2, hR⟩, hM⟩
      have hst : ∃ (Rs : List (List Parcel)) (t : List Parcel), t.length < 20 ∧ (Rs.flatten ++ t).length = n ∧ Full Parcel.sum 20 Rs ∧ Sorted Parcel.sum t ∧ FEq Parcel.sum xs (Rs.flatten ++ t) ∧ RowQ w2 base b n cap (Rs.flatten ++ t) ∧ Mods [b] w w2 := by
        obtain ⟨q1, q2, q3, q4⟩ := HF.out
        have hsl := hs2.length
        exact ⟨Rs, s', by omega, by simp only [List.length_append]; omega, q3, hs1, q4.trans ((FEq.refl _ _).app hs2), by simpa using hR, HM.out.trans hM⟩
      have HST := Lib.hid hst
      clear hst hs1 hs2 hR hM HF HRW HM
      obtain ⟨wo, hwo⟩ : ∃ wo : World, wo = w2 := ⟨_, rfl⟩
      subst hwo
      go_wp2_with fail
      go_loopw [6, 7, 8, 9] (fun x y z v wr => ∃ (bs : Nat), x = .int .i64 (bs : Nat) ∧ 20 ≤ bs ∧ bs ≤ 2 * n + 20 ∧ Hid (∃ (Rs : List (List Parcel)) (t : List Parcel), t.length < bs ∧ (Rs.flatten ++ t).length = n ∧ Full Parcel.sum bs Rs ∧ Sorted Parcel.sum t ∧ FEq Parcel.sum xs (Rs.flatten ++ t) ∧ RowQ wr base b n cap (Rs.flatten ++ t) ∧ Mods [b] w wr)) (fun x _ _ _ _ => n - (intOf x).toNat)
      case atStart => exact ⟨20, rfl, by omega, by omega, HST.out⟩
      case round =>
        obtain ⟨bs, rfl, hbs, hbs2, HS⟩ := hrel
        by_cases hbn : bs < n
        · obtain ⟨wo, hwo⟩ : ∃ wo : World, wo = wr := ⟨_, rfl⟩
          subst hwo
          go_wp2_with fail
          go_loopw [7, 8] (fun x y wr => ∃ (a : Nat) (Es Rs : List (List Parcel)) (t : List Parcel), x = .int .i64 (a : Nat) ∧ y = .int .i64 ((a : Int) + 2 * bs) ∧ a ≤ n ∧ Hid (Es.flatten.length = a ∧ t.length < bs ∧ a + Rs.length * bs + t.length = n ∧ Full Parcel.sum (2 * bs) Es ∧ Full Parcel.sum bs Rs ∧ Sorted Parcel.sum t ∧ FEq Parcel.sum xs (Es.flatten ++ Rs.flatten ++ t)) ∧ Hid (RowQ wr base b n cap (Es.flatten ++ Rs.flatten ++ t)) ∧ Hid (Mods [b] w wr)) (fun x _ _ => n - (intOf x).toNat)
          case atStart =>
            obtain ⟨Rs, t, q1, q2, q3, q4, q5, q6, q7⟩ := HS.out
            exact ⟨0, [], Rs, t, rfl, by simp, by omega, ⟨by simp, q1, by rw [List.length_append, q3.length] at q2; omega, Full.nil _ _, q3, q4, by simpa using q5⟩, by simpa [Hid] using q6, q7⟩
          case round =>
            obtain ⟨a, Es, Rs, t, rfl, rfl, han, HF, HRW, HM⟩ := hrel
            by_cases hlt : a + 2 * bs ≤ n
            · have hle : (a : Int) + 2 * (bs : Int) ≤ (n : Int) := by omega
              obtain ⟨s1, s2, Rs', hRs⟩ : ∃ s1 s2 Rs', Rs = s1 :: s2 :: Rs' := by
                obtain ⟨q1, q2, q3, _⟩ := HF.out
                match Rs, q3 with
                | [], q3 => simp at q3; omega
                | [s], q3 => simp at q3; omega
                | s1 :: s2 :: Rs', _ => exact ⟨s1, s2, Rs', rfl⟩
              subst hRs
              have hs12 : s1.length = bs ∧ s2.length = bs := ⟨(HF.out.2.2.2.2.1 s1 (by simp)).1, (HF.out.2.2.2.2.1 s2 (by simp)).1⟩
              have HS12 := Lib.hid hs12
              clear hs12
              go_wp2_with fail
              have hab : (a : Int) + (bs : Int) = ((a + bs : Nat) : Int) := by omega
              have ha2 : (a : Int) + 2 * (bs : Int) = ((a + 2 * bs : Nat) : Int) := by omega
              rw [hab, ha2]
              refine (symMergeQ (s1.length + s2.length) base b n cap Es.flatten s1 s2 (Rs'.flatten ++ t) wr _ _ _ (Nat.le_refl _) HF.out.1.symm (by rw [HF.out.1, HS12.out.1]) (by rw [HF.out.1, HS12.out.1, HS12.out.2]; omega) (by have := HS12.out; omega) (by have := HS12.out; omega) hn (HF.out.2.2.2.2.1 s1 (by simp)).2 (HF.out.2.2.2.2.1 s2 (by simp)).2 (by have h := HRW.out; simpa using h)).mono ?_
              rw [← hab, ← ha2]
              clear hab ha2
              rintro e w2 ⟨rfl, ⟨s', hs1, hs2, hR⟩, hM⟩
              have HSS := Lib.hid (And.intro hs1 hs2); have HR2 := Lib.hid hR; have HM2 := Lib.hid hM
              clear hs1 hs2 hR hM
              go_wp2_with fail
              go_roundw
              case rel =>
                obtain ⟨q1, q2, q3, q4, q5, q6, q7⟩ := HF.out
                have hsl := HSS.out.2.length
                have h12 := HS12.out
                rw [List.length_append] at hsl
                refine ⟨a + 2 * bs, Es ++ [s'], Rs', t, by go_num, by go_num, by omega, ⟨by rw [List.flatten_append, List.length_append, List.flatten_singleton]; omega, q2, ?_, q4.snoc (by omega) HSS.out.1, q5.tail.tail, q6, ?_⟩, by simpa [Hid] using HR2.out, HM.out.trans HM2.out⟩
                · simp only [List.length_cons, Nat.succ_mul] at q3; omega
                · refine q7.trans ?_
                  have h := (FEq.refl Parcel.sum Es.flatten).app (HSS.out.2.app (FEq.refl _ (Rs'.flatten ++ t)))
                  simpa using h
              case measure => simp [intOf]; omega
            · have hle : ¬ (a : Int) + 2 * (bs : Int) ≤ (n : Int) := by omega
              have hab : (a : Int) + (bs : Int) = ((a + bs : Nat) : Int) := by omega
              by_cases hm : a + bs < n
              · have hm' : (a : Int) + (bs : Int) < (n : Int) := by omega
                obtain ⟨s1, hRs⟩ : ∃ s1, Rs = [s1] := by
                  obtain ⟨q1, q2, q3, _⟩ := HF.out
                  match Rs, q3 with
                  | [], q3 => simp at q3; omega
                  | [s], q3 => exact ⟨s, rfl⟩
                  | s1 :: s2 :: Rs', q3 => simp only [List.length_cons, Nat.succ_mul] at q3; omega
                subst hRs
                have hs12 : s1.length = bs ∧ 0 < t.length ∧ a + bs + t.length = n := by
                  obtain ⟨q1, q2, q3, _⟩ := HF.out
                  simp at q3
                  exact ⟨(HF.out.2.2.2.2.1 s1 (by simp)).1, by omega, by omega⟩
                have HS12 := Lib.hid hs12
                have HAB := Lib.hid hab
                clear hs12 hab
                go_wp2_with fail
                rw [HAB.out]
                refine (symMergeQ (s1.length + t.length) base b n cap Es.flatten s1 t [] wr _ _ _ (Nat.le_refl _) HF.out.1.symm (by rw [HF.out.1, HS12.out.1]) (by rw [HF.out.1, HS12.out.1]; have := HS12.out; omega) (by have := HS12.out; omega) (by have := HS12.out; omega) hn (HF.out.2.2.2.2.1 s1 (by simp)).2 HF.out.2.2.2.2.2.1 (by have h := HRW.out; simpa using h)).mono ?_
                rw [← HAB.out]
                rintro e w2 ⟨rfl, ⟨s', hs1, hs2, hR⟩, hM⟩
                have HSS := Lib.hid (And.intro hs1 hs2); have HR2 := Lib.hid hR; have HM2 := Lib.hid hM
                clear hs1 hs2 hR hM
                go_wp2_with fail
                go_roundw
                case rel =>
                  obtain ⟨q1, q2, q3, q4, q5, q6, q7⟩ := HF.out
                  have hsl := HSS.out.2.length
                  have h12 := HS12.out
                  rw [List.length_append] at hsl
                  refine ⟨2 * bs, by go_num, by omega, by omega, Es, s', by omega, by rw [List.length_append]; omega, q4, HSS.out.1, ?_, by simpa using HR2.out, HM.out.trans HM2.out⟩
                  refine q7.trans ?_
                  have h := (FEq.refl Parcel.sum Es.flatten).app HSS.out.2
                  simpa using h
                case measure => simp [intOf]; omega
              · have hm' : ¬ (a : Int) + (bs : Int) < (n : Int) := by omega
                have hfin : ∃ t', t'.length < 2 * bs ∧ (Es.flatten ++ t').length = n ∧ Sorted Parcel.sum t' ∧ Rs.flatten ++ t = t' := by
                  obtain ⟨q1, q2, q3, q4, q5, q6, q7⟩ := HF.out
                  match Rs, q3, q5 with
                  | [], q3, _ => exact ⟨t, by omega, by rw [List.length_append]; simp at q3; omega, q6, by simp⟩
                  | [s], q3, q5 =>
                    have ht : t = [] := List.eq_nil_of_length_eq_zero (by simp at q3; omega)
                    have hs := q5 s (by simp)
                    rw [ht] at q3 ⊢
                    exact ⟨s, by omega, by rw [List.length_append]; simp at q3; omega, hs.2, by simp⟩
                  | s1 :: s2 :: Rs', q3, _ => simp only [List.length_cons, Nat.succ_mul] at q3; omega
                have HFIN := Lib.hid hfin
                clear hfin hab
                go_wp2_with fail
                go_roundw
                case rel =>
                  obtain ⟨q1, q2, q3, q4, q5, q6, q7⟩ := HF.out
                  obtain ⟨t', p1, p2, p3, p4⟩ := HFIN.out
                  rw [List.append_assoc, p4] at q7
                  have hr := HRW.out
                  rw [List.append_assoc, p4] at hr
                  exact ⟨2 * bs, by go_num, by omega, by omega, Es, t', p1, p2, q4, p3, q7, hr, HM.out⟩
                case measure => simp [intOf]; omega
        · have hle : ¬ (bs : Int) < (n : Int) := by omega
          go_wp2_with fail
          go_end0
          obtain ⟨Rs, t, q1, q2, q3, q4, q5, q6, q7⟩ := HS.out
          exact ⟨rfl, ⟨_, Full.done q3 q4 q1 q2 (by omega), q5, q6⟩, q7⟩

set_option maxHeartbeats 400000 in
theorem sortStableQ (base b n cap : Nat) (xs : List Parcel) (w : World) (hn : n ≤ 70368744177664)
    (H : RowQ w base b n cap xs) :
    Calls Try.prog 60 #[.slice (some ⟨b, 0, none⟩) n cap, lessV] w
      fun e w' => e = .returned (.tuple #[]) ∧ (∃ s', Sorted Parcel.sum s' ∧ FEq Parcel.sum xs s' ∧ RowQ w' base b n cap s') ∧ Mods [b] w w' := by
  have h := Lib.hid (stableQ base b n cap xs w hn H)
  clear H
  go_enter Try.func60, Try.ntmps60
  go_wp2_with fail
  refine h.out.mono ?_
  rintro e w2 ⟨rfl, hs, hM⟩
  have HS := Lib.hid hs; have HM := Lib.hid hM
  clear hs hM
  go_wp2_with fail
  go_end0
  exact ⟨rfl, HS.out, HM.out⟩
end Go.Proofs.Ytbljoihnjhllhaa
