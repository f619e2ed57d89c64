/- The library's symmetrical merge, and its stable sort, of parcels. -/
import Derived.Test.YtbljoihnjhllhaaLensFlat11
namespace Go.Proofs.Ytbljoihnjhllhaa
open Go.RowKit
open Go.Proofs.YtbljoihnjhllhaaW.PrintWords
open Srt

set_option maxRecDepth 100000 in
set_option maxHeartbeats 2000000 in
theorem symMergeQA (base b n cap : Nat) (p s r : List Parcel) (x : Parcel) (w : World) (i m k : Nat) (hi : i = p.length) (hm : m = i + 1) (hk : k = p.length + 1 + s.length) (hn : n ≤ 70368744177664)
    (hs : Sorted Parcel.sum s) (H : RowQ w base b n cap (p ++ x :: s ++ r)) :
    Calls Try.prog 75 #[.slice (some ⟨b, 0, none⟩) n cap, .int .i64 (i : Nat), .int .i64 (m : Nat), .int .i64 (k : Nat), lessV] w
      fun e w' => e = .returned (.tuple #[]) ∧ (∃ s', Sorted Parcel.sum s' ∧ FEq Parcel.sum (x :: s) s' ∧ RowQ w' base b n cap (p ++ s' ++ r)) ∧ Mods [b] w w' := by
  have hlen := H.length
  simp only [List.length_append, List.length_cons] at hlen
  have HR := Lib.hid H; have HSO := Lib.hid hs
  have h0 : i + 1 ≤ k ∧ k ≤ n := by omega
  obtain ⟨h1, h2⟩ := h0
  have HI := Lib.hid hi; have HK := Lib.hid hk; have HL := Lib.hid hlen
  clear H hi hk hlen hs
  have hm1 : ((m : Int) - (i : Int) == 1) = true := by simp; omega
  have hm2 : m ≤ i + 1 ∧ i + 1 ≤ m := by omega
  have HM := Lib.hid hm; clear hm
  go_enter Try.func75, Try.ntmps75
  go_wp2_with fail
  go_loopw [10, 11, 12] (fun u v h wr => ∃ (s0 t0 : Nat), u = .int .i64 (s0 : Nat) ∧ v = .int .i64 (t0 : Nat) ∧ i + 1 ≤ s0 ∧ s0 ≤ t0 ∧ t0 ≤ k ∧ Hid (∀ y ∈ s.take (s0 - (i + 1)), Parcel.sum y < Parcel.sum x) ∧ Hid (∀ y ∈ s.drop (t0 - (i + 1)), Parcel.sum x ≤ Parcel.sum y) ∧ Hid (Mods [] w wr)) (fun u v _ _ => (intOf v - intOf u).toNat)
  case atStart => exact ⟨m, k, rfl, rfl, by omega, by omega, Nat.le_refl _, by show ∀ _ ∈ _, _; rw [HM.out]; simp, by show ∀ _ ∈ _, _; rw [List.drop_of_length_le (by have := HK.out; have := HI.out; omega)]; simp, Mods.refl _ _⟩
  case round =>
    obtain ⟨s0, t0, rfl, rfl, g1, g2, g3, HLO, HHI, HQ⟩ := hrel
    have HRW := Lib.hid (show RowQ wr base b n cap (p ++ x :: s ++ r) from HR.out.mods HQ.out (by simp))
    have HMW := Lib.hid (show Mods [b] w wr from HQ.out.mono (by simp))
    by_cases hlt : s0 < t0
    · have hh1 : i + 1 ≤ (s0 + t0) / 2 := by omega
      have hh2 : (s0 + t0) / 2 < t0 := by omega
      have hh3 : s0 ≤ (s0 + t0) / 2 := by omega
      generalize hh : (s0 + t0) / 2 = h at *
      have ehh : ((s0 : Int) + (t0 : Int)) / 2 = (h : Int) := by omega
      have HH := Lib.hid hh; clear hh
      have hpl : p.length = i := HI.out.symm
      have hsl : h - (i + 1) < s.length := by have := HK.out; omega
      obtain ⟨y, hy⟩ : ∃ y, s[h - (i + 1)]? = some y := ⟨_, List.getElem?_eq_getElem hsl⟩
      have hr := HRW.out
      have ex : (p ++ x :: s ++ r)[i]? = some x := by
        rw [List.append_assoc]; exact get_mid _ _ _ _ (by omega)
      have ey : (p ++ x :: s ++ r)[h]? = some y := by
        rw [List.append_assoc, List.getElem?_append_right (by omega), List.cons_append, List.getElem?_cons, if_neg (by omega), List.getElem?_append_left (by omega), show h - p.length - 1 = h - (i + 1) from by omega]
        exact hy
      obtain ⟨hc1, hc1', hf1, hf1'⟩ := hr.at _ _ ex
      obtain ⟨hc2, hc2', hf2, hf2'⟩ := hr.at _ _ ey
      have HR3 := Lib.hid hr; have HPL := Lib.hid hpl; have HY := Lib.hid hy
      clear hr ex ey hpl hy
      have hne0 := World.new_ne wr _ hc1; have hne1 := World.new_ne wr _ hc1'; have hne2 := World.new_ne wr _ hc2; have hne3 := World.new_ne wr _ hc2'
      have hi1 : (i : Int) < (n : Int) := by omega
      have hi2 : (h : Int) < (n : Int) := by omega
      by_cases hk : y.sum < x.sum
      · have HKK : Hid (y.sum < x.sum) := Lib.hid (show y.sum < x.sum from hk)
        have hcmp := cmpS_yes hk
        go_wp2_with fail
        go_region_held3 (fun w' => w'.cell? ⟨b, h * 2, none⟩ = some (.int .i64 y.sum) ∧ w'.cell? ⟨b, h * 2 + 1, none⟩ = some (.slice y.A y.n y.c) ∧ w'.cell? ⟨b, i * 2, none⟩ = some (.int .i64 x.sum) ∧ w'.cell? ⟨b, i * 2 + 1, none⟩ = some (.slice x.A x.n x.c)) (go_keep) ((go_at_call 61; refine (less1 _ _ _ _ _).mono ?_; rintro e w' ⟨rfl, rfl⟩))
        have hMw : Mods [] wr (((wr.alloc (.cells #[.int .i64 y.sum, .slice y.A y.n y.c] 93)).alloc (.cells #[.int .i64 x.sum, .slice x.A x.n x.c] 93)).drew) := (((Mods.refl [] wr).alloc _).alloc _).drew
        generalize hwc : ((wr.alloc (.cells #[.int .i64 y.sum, .slice y.A y.n y.c] 93)).alloc (.cells #[.int .i64 x.sum, .slice x.A x.n x.c] 93)).drew = wc at *
        have HMc := Lib.hid (HQ.out.trans hMw)
        clear hwc hMw hc1 hc1' hc2 hc2' hf1 hf1' hf2 hf2' hne0 hne1 hne2 hne3
        go_wp2_with fail
        go_roundw
        case rel =>
          refine ⟨h + 1, t0, by go_num, rfl, by omega, by omega, by omega, ?_, HHI, ?_⟩
          · show ∀ _ ∈ _, _
            intro z hz
            rw [show h + 1 - (i + 1) = h - (i + 1) + 1 from by omega] at hz
            exact Int.lt_of_le_of_lt (sorted_take HSO.out HY.out z hz) HKK.out
          · exact HMc.out
        case measure => simp [intOf]; omega
      · have HKK : Hid (x.sum ≤ y.sum) := Lib.hid (show x.sum ≤ y.sum from by omega)
        have hcmp := cmpS_no hk
        go_wp2_with fail
        go_region_held3 (fun w' => w'.cell? ⟨b, h * 2, none⟩ = some (.int .i64 y.sum) ∧ w'.cell? ⟨b, h * 2 + 1, none⟩ = some (.slice y.A y.n y.c) ∧ w'.cell? ⟨b, i * 2, none⟩ = some (.int .i64 x.sum) ∧ w'.cell? ⟨b, i * 2 + 1, none⟩ = some (.slice x.A x.n x.c)) (go_keep) ((go_at_call 61; refine (less1 _ _ _ _ _).mono ?_; rintro e w' ⟨rfl, rfl⟩))
        have hMw : Mods [] wr (((wr.alloc (.cells #[.int .i64 y.sum, .slice y.A y.n y.c] 93)).alloc (.cells #[.int .i64 x.sum, .slice x.A x.n x.c] 93)).drew) := (((Mods.refl [] wr).alloc _).alloc _).drew
        generalize hwc : ((wr.alloc (.cells #[.int .i64 y.sum, .slice y.A y.n y.c] 93)).alloc (.cells #[.int .i64 x.sum, .slice x.A x.n x.c] 93)).drew = wc at *
        have HMc := Lib.hid (HQ.out.trans hMw)
        clear hwc hMw hc1 hc1' hc2 hc2' hf1 hf1' hf2 hf2' hne0 hne1 hne2 hne3
        go_wp2_with fail
        go_roundw
        case rel =>
          refine ⟨s0, h, rfl, rfl, g1, by omega, by omega, HLO, ?_, ?_⟩
          · show ∀ _ ∈ _, _
            intro z hz
            exact Int.le_trans HKK.out (sorted_drop HSO.out HY.out z hz)
          · exact HMc.out
        case measure => simp [intOf]; omega
    · obtain ⟨t, ht⟩ : ∃ t, s0 = i + 1 + t := ⟨s0 - (i + 1), by omega⟩
      have hts : t ≤ s.length := by have := HK.out; have := HI.out; omega
      have hfin : Hid (Sorted Parcel.sum (s.take t ++ x :: s.drop t) ∧ FEq Parcel.sum (x :: s) (s.take t ++ x :: s.drop t)) :=
        Lib.hid (show Sorted Parcel.sum (s.take t ++ x :: s.drop t) ∧ FEq Parcel.sum (x :: s) (s.take t ++ x :: s.drop t) from
          move_right HSO.out (by have h := HLO.out; rw [ht, show i + 1 + t - (i + 1) = t from by omega] at h; exact h) (by have h := HHI.out; rw [show t0 - (i + 1) = t from by omega] at h; exact h))
      have HT := Lib.hid ht
      have hts2 : i + 1 + t ≤ n := by omega
      have hs0t : (s0 : Int) - 1 = (i : Int) + (t : Int) := by omega
      have HS0T := Lib.hid hs0t
      have hs0b : s0 ≤ i + 1 + t ∧ i + 1 + t ≤ s0 := by omega
      clear ht hs0t
      obtain ⟨wo, hwo⟩ : ∃ wo : World, wo = wr := ⟨_, rfl⟩
      subst hwo
      go_wp2_with fail
      go_loopw [13] (fun z wr => ∃ q0 : Nat, z = .int .i64 ((i : Int) + q0) ∧ q0 ≤ t ∧ Hid (RowQ wr base b n cap (p ++ (s.take q0 ++ x :: s.drop q0) ++ r)) ∧ Hid (Mods [b] w wr)) (fun z _ => (i + t - intOf z).toNat)
      case atStart => exact ⟨0, by simp, by omega, by show RowQ _ _ _ _ _ _; simpa using HRW.out, HMW.out⟩
      case round =>
        obtain ⟨q0, rfl, hq, HR5, HM5⟩ := hrel
        by_cases hlt2 : q0 < t
        · obtain ⟨y, hy⟩ : ∃ y, s[q0]? = some y := ⟨_, List.getElem?_eq_getElem (by omega)⟩
          have hpl : p.length = i := HI.out.symm
          have hds : s.drop q0 = y :: s.drop (q0 + 1) := by
            rw [List.drop_eq_getElem_cons (by omega), (List.getElem?_eq_some_iff.1 hy).2]
          have hr := HR5.out
          rw [hds] at hr
          have e1 : p ++ (s.take q0 ++ x :: y :: s.drop (q0 + 1)) ++ r = (p ++ s.take q0) ++ x :: y :: (s.drop (q0 + 1) ++ r) := by simp
          have el : (p ++ s.take q0).length = i + q0 := by rw [List.length_append, List.length_take]; omega
          rw [e1] at hr
          have ex : ((p ++ s.take q0) ++ x :: y :: (s.drop (q0 + 1) ++ r))[i + q0]? = some x := get_mid _ _ _ _ (by omega)
          have ey : ((p ++ s.take q0) ++ x :: y :: (s.drop (q0 + 1) ++ r))[i + q0 + 1]? = some y := by
            have := get_mid ((p ++ s.take q0) ++ [x]) (s.drop (q0 + 1) ++ r) y (i + q0 + 1) (by rw [List.length_append, el]; rfl)
            simpa using this
          obtain ⟨hc1, hc1', hf1, hf1'⟩ := hr.at _ _ ex
          obtain ⟨hc2, hc2', hf2, hf2'⟩ := hr.at _ _ ey
          have hnext : RowQ ((((wr.setCell ⟨b, (i + q0) * 2, none⟩ (.int .i64 y.sum)).setCell ⟨b, (i + q0) * 2 + 1, none⟩ (.slice y.A y.n y.c)).setCell ⟨b, (i + q0 + 1) * 2, none⟩ (.int .i64 x.sum)).setCell ⟨b, (i + q0 + 1) * 2 + 1, none⟩ (.slice x.A x.n x.c)) base b n cap (p ++ (s.take (q0 + 1) ++ x :: s.drop (q0 + 1)) ++ r) := by
            have h := (hr.set (i + q0) y (by omega)).set (i + q0 + 1) x (by omega)
            rw [swap_adj' _ _ x y (i + q0) (i + q0 + 1) (by omega) (by omega)] at h
            rw [List.take_add_one, hy]
            simpa using h
          have HN := Lib.hid hnext
          clear hr ex ey hds hpl hy hnext e1 el
          have hlt3 : (i : Int) + (q0 : Int) < (s0 : Int) - 1 := by omega
          go_wp2_with fail
          go_region
          go_wp2_with fail
          go_roundw
          case rel => exact ⟨q0 + 1, by go_num, by omega, HN.out.drew, ((((HM5.out.setCell (by simp) _).setCell (by simp) _).setCell (by simp) _).setCell (by simp) _).drew⟩
          case measure => simp [intOf]; omega
        · have hqt : q0 = t := by omega
          have h := HR5.out
          rw [hqt] at h
          have HR6 := Lib.hid h
          clear h hqt
          have hge : (s0 : Int) - 1 ≤ (i : Int) + (q0 : Int) := by omega
          go_wp2_with fail
          exact bodyPost_ret (v := .tuple #[]) (by simp [results, Try.results75, go_sem]) rfl ⟨rfl, ⟨_, hfin.out.1, hfin.out.2, HR6.out⟩, HM5.out⟩

set_option maxRecDepth 100000 in
set_option maxHeartbeats 2000000 in
theorem symMergeQB (base b n cap : Nat) (p s r : List Parcel) (x : Parcel) (w : World) (i m k : Nat) (hi : i = p.length) (hm : m = p.length + s.length) (hk : k = m + 1) (h2s : 2 ≤ s.length) (hn : n ≤ 70368744177664)
    (hs : Sorted Parcel.sum s) (H : RowQ w base b n cap (p ++ (s ++ [x]) ++ r)) :
    Calls Try.prog 75 #[.slice (some ⟨b, 0, none⟩) n cap, .int .i64 (i : Nat), .int .i64 (m : Nat), .int .i64 (k : Nat), lessV] w
      fun e w' => e = .returned (.tuple #[]) ∧ (∃ s', Sorted Parcel.sum s' ∧ FEq Parcel.sum (s ++ [x]) s' ∧ RowQ w' base b n cap (p ++ s' ++ r)) ∧ Mods [b] w w' := by
  have hlen := H.length
  simp only [List.length_append, List.length_cons, List.length_nil] at hlen
  have HR := Lib.hid H; have HSO := Lib.hid hs
  have h0 : i + 2 ≤ m ∧ m + 1 ≤ k ∧ k ≤ m + 1 ∧ k ≤ n := by omega
  obtain ⟨h1, h3, h4, h2⟩ := h0
  have HI := Lib.hid hi; have HK := Lib.hid hk; have HL := Lib.hid hlen; have HMM := Lib.hid hm
  clear H hi hk hlen hs hm
  have hm1 : ((m : Int) - (i : Int) == 1) = false := by simp; omega
  have hm2 : ((k : Int) - (m : Int) == 1) = true := by simp; omega
  go_enter Try.func75, Try.ntmps75
  go_wp2_with fail
  go_loopw [14, 15, 16] (fun u v h wr => ∃ (s0 t0 : Nat), u = .int .i64 (s0 : Nat) ∧ v = .int .i64 (t0 : Nat) ∧ i ≤ s0 ∧ s0 ≤ t0 ∧ t0 ≤ m ∧ Hid (∀ y ∈ s.take (s0 - i), Parcel.sum y ≤ Parcel.sum x) ∧ Hid (∀ y ∈ s.drop (t0 - i), Parcel.sum x < Parcel.sum y) ∧ Hid (Mods [] w wr)) (fun u v _ _ => (intOf v - intOf u).toNat)
  case atStart => exact ⟨i, m, rfl, rfl, Nat.le_refl _, by omega, Nat.le_refl _, by show ∀ _ ∈ _, _; simp, by show ∀ _ ∈ _, _; rw [List.drop_of_length_le (by have := HMM.out; have := HI.out; omega)]; simp, Mods.refl _ _⟩
  case round =>
    obtain ⟨s0, t0, rfl, rfl, g1, g2, g3, HLO, HHI, HQ⟩ := hrel
    have HRW := Lib.hid (show RowQ wr base b n cap (p ++ (s ++ [x]) ++ r) from HR.out.mods HQ.out (by simp))
    have HMW := Lib.hid (show Mods [b] w wr from HQ.out.mono (by simp))
    by_cases hlt : s0 < t0
    · have hh2 : (s0 + t0) / 2 < t0 := by omega
      have hh3 : s0 ≤ (s0 + t0) / 2 := by omega
      generalize hh : (s0 + t0) / 2 = h at *
      have ehh : ((s0 : Int) + (t0 : Int)) / 2 = (h : Int) := by omega
      have HH := Lib.hid hh; clear hh
      have hpl : p.length = i := HI.out.symm
      have hsl : h - i < s.length := by have := HMM.out; omega
      obtain ⟨y, hy⟩ : ∃ y, s[h - i]? = some y := ⟨_, List.getElem?_eq_getElem hsl⟩
      have hr := HRW.out
      have ex : (p ++ (s ++ [x]) ++ r)[m]? = some x := by
        have e : p ++ (s ++ [x]) ++ r = (p ++ s) ++ x :: r := by simp
        rw [e]; exact get_mid _ _ _ _ (by have := HMM.out; simp; omega)
      have ey : (p ++ (s ++ [x]) ++ r)[h]? = some y := by
        rw [List.append_assoc, List.getElem?_append_right (by omega), List.append_assoc, List.getElem?_append_left (by omega), show h - p.length = h - i from by omega]
        exact hy
      obtain ⟨hc1, hc1', hf1, hf1'⟩ := hr.at _ _ ex
      obtain ⟨hc2, hc2', hf2, hf2'⟩ := hr.at _ _ ey
      have HR3 := Lib.hid hr; have HPL := Lib.hid hpl; have HY := Lib.hid hy
      clear hr ex ey hpl hy
      have hne0 := World.new_ne wr _ hc1; have hne1 := World.new_ne wr _ hc1'; have hne2 := World.new_ne wr _ hc2; have hne3 := World.new_ne wr _ hc2'
      have hi1 : (m : Int) < (n : Int) := by omega
      have hi2 : (h : Int) < (n : Int) := by omega
      by_cases hk : x.sum < y.sum
      · have HKK : Hid (x.sum < y.sum) := Lib.hid (show x.sum < y.sum from hk)
        have hcmp := cmpS_yes hk
        go_wp2_with fail
        go_region_held3 (fun w' => w'.cell? ⟨b, m * 2, none⟩ = some (.int .i64 x.sum) ∧ w'.cell? ⟨b, m * 2 + 1, none⟩ = some (.slice x.A x.n x.c) ∧ w'.cell? ⟨b, h * 2, none⟩ = some (.int .i64 y.sum) ∧ w'.cell? ⟨b, h * 2 + 1, none⟩ = some (.slice y.A y.n y.c)) (go_keep) ((go_at_call 61; refine (less1 _ _ _ _ _).mono ?_; rintro e w' ⟨rfl, rfl⟩))
        have hMw : Mods [] wr (((wr.alloc (.cells #[.int .i64 x.sum, .slice x.A x.n x.c] 93)).alloc (.cells #[.int .i64 y.sum, .slice y.A y.n y.c] 93)).drew) := (((Mods.refl [] wr).alloc _).alloc _).drew
        generalize hwc : ((wr.alloc (.cells #[.int .i64 x.sum, .slice x.A x.n x.c] 93)).alloc (.cells #[.int .i64 y.sum, .slice y.A y.n y.c] 93)).drew = wc at *
        have HMc := Lib.hid (HQ.out.trans hMw)
        clear hwc hMw hc1 hc1' hc2 hc2' hf1 hf1' hf2 hf2' hne0 hne1 hne2 hne3
        go_wp2_with fail
        go_roundw
        case rel =>
          refine ⟨s0, h, rfl, rfl, g1, by omega, by omega, HLO, ?_, ?_⟩
          · show ∀ _ ∈ _, _
            intro z hz
            exact Int.lt_of_lt_of_le HKK.out (sorted_drop HSO.out HY.out z hz)
          · exact HMc.out
        case measure => simp [intOf]; omega
      · have HKK : Hid (y.sum ≤ x.sum) := Lib.hid (show y.sum ≤ x.sum from by omega)
        have hcmp := cmpS_no hk
        go_wp2_with fail
        go_region_held3 (fun w' => w'.cell? ⟨b, m * 2, none⟩ = some (.int .i64 x.sum) ∧ w'.cell? ⟨b, m * 2 + 1, none⟩ = some (.slice x.A x.n x.c) ∧ w'.cell? ⟨b, h * 2, none⟩ = some (.int .i64 y.sum) ∧ w'.cell? ⟨b, h * 2 + 1, none⟩ = some (.slice y.A y.n y.c)) (go_keep) ((go_at_call 61; refine (less1 _ _ _ _ _).mono ?_; rintro e w' ⟨rfl, rfl⟩))
        have hMw : Mods [] wr (((wr.alloc (.cells #[.int .i64 x.sum, .slice x.A x.n x.c] 93)).alloc (.cells #[.int .i64 y.sum, .slice y.A y.n y.c] 93)).drew) := (((Mods.refl [] wr).alloc _).alloc _).drew
        generalize hwc : ((wr.alloc (.cells #[.int .i64 x.sum, .slice x.A x.n x.c] 93)).alloc (.cells #[.int .i64 y.sum, .slice y.A y.n y.c] 93)).drew = wc at *
        have HMc := Lib.hid (HQ.out.trans hMw)
        clear hwc hMw hc1 hc1' hc2 hc2' hf1 hf1' hf2 hf2' hne0 hne1 hne2 hne3
        go_wp2_with fail
        go_roundw
        case rel =>
          refine ⟨h + 1, t0, by go_num, rfl, by omega, by omega, by omega, ?_, HHI, ?_⟩
          · show ∀ _ ∈ _, _
            intro z hz
            rw [show h + 1 - i = h - i + 1 from by omega] at hz
            exact Int.le_trans (sorted_take HSO.out HY.out z hz) HKK.out
          · exact HMc.out
        case measure => simp [intOf]; omega
    · obtain ⟨t, ht⟩ : ∃ t, s0 = i + t := ⟨s0 - i, by omega⟩
      have hts : t ≤ s.length := by have := HMM.out; have := HI.out; omega
      have hfin : Hid (Sorted Parcel.sum (s.take t ++ x :: s.drop t) ∧ FEq Parcel.sum (s ++ [x]) (s.take t ++ x :: s.drop t)) :=
        Lib.hid (show Sorted Parcel.sum (s.take t ++ x :: s.drop t) ∧ FEq Parcel.sum (s ++ [x]) (s.take t ++ x :: s.drop t) from
          move_left HSO.out (by have h := HLO.out; rw [ht, show i + t - i = t from by omega] at h; exact h) (by have h := HHI.out; rw [show t0 - i = t from by omega] at h; exact h))
      have HT := Lib.hid ht
      have hs0b : s0 ≤ i + t ∧ i + t ≤ s0 := by omega
      clear ht
      obtain ⟨wo, hwo⟩ : ∃ wo : World, wo = wr := ⟨_, rfl⟩
      subst hwo
      go_wp2_with fail
      go_loopw [17] (fun z wr => ∃ (q0 kk : Nat), z = .int .i64 (kk : Nat) ∧ Hid (kk = i + q0) ∧ t ≤ q0 ∧ q0 ≤ s.length ∧ Hid (RowQ wr base b n cap (p ++ (s.take q0 ++ x :: s.drop q0) ++ r)) ∧ Hid (Mods [b] w wr)) (fun z _ => (intOf z).toNat)
      case atStart => exact ⟨s.length, m, rfl, by have := HMM.out; have := HI.out; show _ = _; omega, hts, Nat.le_refl _, by show RowQ _ _ _ _ _ _; simpa using HRW.out, HMW.out⟩
      case round =>
        obtain ⟨q0, kk, rfl, HKQ, hq1, hq2, HR5, HM5⟩ := hrel
        by_cases hlt2 : t < q0
        · obtain ⟨q', rfl⟩ : ∃ q', q0 = q' + 1 := ⟨q0 - 1, by omega⟩
          obtain ⟨y, hy⟩ : ∃ y, s[q']? = some y := ⟨_, List.getElem?_eq_getElem (by omega)⟩
          have hpl : p.length = i := HI.out.symm
          have hkq := HKQ.out
          have hr := HR5.out
          rw [List.take_add_one, hy] at hr
          have e1 : p ++ (s.take q' ++ (some y).toList ++ x :: s.drop (q' + 1)) ++ r = (p ++ s.take q') ++ y :: x :: (s.drop (q' + 1) ++ r) := by simp
          have el : (p ++ s.take q').length = i + q' := by rw [List.length_append, List.length_take]; omega
          rw [e1] at hr
          have ey : ((p ++ s.take q') ++ y :: x :: (s.drop (q' + 1) ++ r))[i + q']? = some y := get_mid _ _ _ _ (by omega)
          have ex : ((p ++ s.take q') ++ y :: x :: (s.drop (q' + 1) ++ r))[kk]? = some x := by
            have := get_mid ((p ++ s.take q') ++ [y]) (s.drop (q' + 1) ++ r) x kk (by rw [List.length_append, el]; simp; omega)
            simpa using this
          have hkn : kk < n := by have := hr.length; rw [List.length_append, el] at this; simp at this; omega
          obtain ⟨hc1, hc1', hf1, hf1'⟩ := hr.at _ _ ey
          obtain ⟨hc2, hc2', hf2, hf2'⟩ := hr.at _ _ ex
          have hnext : RowQ ((((wr.setCell ⟨b, kk * 2, none⟩ (.int .i64 y.sum)).setCell ⟨b, kk * 2 + 1, none⟩ (.slice y.A y.n y.c)).setCell ⟨b, (i + q') * 2, none⟩ (.int .i64 x.sum)).setCell ⟨b, (i + q') * 2 + 1, none⟩ (.slice x.A x.n x.c)) base b n cap (p ++ (s.take q' ++ x :: s.drop q') ++ r) := by
            have h := (hr.set kk y (by omega)).set (i + q') x (by omega)
            rw [swap_adj _ _ y x (i + q') kk (by omega) (by omega)] at h
            have hds : s.drop q' = y :: s.drop (q' + 1) := by
              rw [List.drop_eq_getElem_cons (by omega), (List.getElem?_eq_some_iff.1 hy).2]
            rw [hds]
            simpa using h
          have HN := Lib.hid hnext; have HRR := Lib.hid hr
          have hkk1 : (kk : Int) - 1 = ((i + q' : Nat) : Int) := by omega
          have hw : IntKind.i64.wrap ((kk : Int) - 1) = ((i + q' : Nat) : Int) := by rw [IntWalk.i64_in _ (by omega)]; omega
          have hgt : (s0 : Int) < (kk : Int) := by omega
          generalize i + q' = k1 at *
          clear hr ex ey hpl hy hnext e1 el hkq
          go_wp2_with fail
          go_region
          go_wp2_with fail
          go_roundw
          case rel => exact ⟨q', k1, by first | rfl | (congr 1), by have := HKQ.out; show _ = _; omega, by omega, by omega, HN.out.drew, ((((HM5.out.setCell (by simp) _).setCell (by simp) _).setCell (by simp) _).setCell (by simp) _).drew⟩
          case measure => simp [intOf]; omega
        · have hqt : q0 = t := by omega
          have h := HR5.out
          rw [hqt] at h
          have HR6 := Lib.hid h
          have hge : ¬ (s0 : Int) < (kk : Int) := by have := HKQ.out; omega
          clear h hqt
          go_wp2_with fail
          exact bodyPost_ret (v := .tuple #[]) (by simp [results, Try.results75, go_sem]) rfl ⟨rfl, ⟨_, hfin.out.1, hfin.out.2, by simpa using HR6.out⟩, HM5.out⟩
end Go.Proofs.Ytbljoihnjhllhaa
