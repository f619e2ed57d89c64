/- The library's symmetrical merge, general case, and its stable sort, of symbols by their lengths. -/
import Derived.Test.YtbljoihnjhllhaaLensFlat7
namespace Go.Proofs.Ytbljoihnjhllhaa
open Go.RowKit
open Go.Proofs.YtbljoihnjhllhaaW.PrintWords
open Srt

/-- What a symmetrical merge does, at segments of at most N elements. -/
def SymMergeI (N : Nat) : Prop := ∀ (base b n cap B : Nat) (A : Option Addr) (nl cl : Nat) (ls p s1 s2 r : List Int) (w : World) (i m k : Nat), s1.length + s2.length ≤ N → i = p.length → m = p.length + s1.length → k = p.length + s1.length + s2.length → 0 < s1.length → 0 < s2.length → n ≤ 140737488351232 →
    B ≠ b → (∀ ad, A = some ad → ad.block ≠ b) → CmpI w B A nl cl ls → (∀ y ∈ s1 ++ s2, GoodI ls y) → Sorted (keyI ls) s1 → Sorted (keyI ls) s2 → RowI w base b n cap (p ++ (s1 ++ s2) ++ r) →
    Calls Try.prog 58 #[.slice (some ⟨b, 0, none⟩) n cap, .int .i64 (i : Nat), .int .i64 (m : Nat), .int .i64 (k : Nat), cmpI B] w
      fun e w' => e = .returned (.tuple #[]) ∧ (∃ s', Sorted (keyI ls) s' ∧ FEq (keyI ls) (s1 ++ s2) s' ∧ RowI w' base b n cap (p ++ s' ++ r)) ∧ Mods [b] w w'

set_option maxRecDepth 100000 in
set_option maxHeartbeats 4000000 in
theorem symMergeC (N : Nat) (IH : SymMergeI N) (base b n cap B : Nat) (A : Option Addr) (nl cl : Nat) (ls p s1 s2 r : List Int) (w : World) (i m k : Nat) (hN : s1.length + s2.length ≤ N + 1) (hi : i = p.length) (hm : m = p.length + s1.length) (hk : k = p.length + s1.length + s2.length) (h1 : 2 ≤ s1.length) (h2 : 2 ≤ s2.length) (hn : n ≤ 140737488351232)
    (hB : B ≠ b) (hA : ∀ ad, A = some ad → ad.block ≠ b) (hc : CmpI w B A nl cl ls) (hg : ∀ y ∈ s1 ++ s2, GoodI ls y) (hs1 : Sorted (keyI ls) s1) (hs2 : Sorted (keyI ls) s2) (H : RowI w base b n cap (p ++ (s1 ++ s2) ++ r)) :
    Calls Try.prog 58 #[.slice (some ⟨b, 0, none⟩) n cap, .int .i64 (i : Nat), .int .i64 (m : Nat), .int .i64 (k : Nat), cmpI B] w
      fun e w' => e = .returned (.tuple #[]) ∧ (∃ s', Sorted (keyI ls) s' ∧ FEq (keyI ls) (s1 ++ s2) s' ∧ RowI w' base b n cap (p ++ s' ++ r)) ∧ Mods [b] w w' := by
  have hlen := H.length
  simp only [List.length_append] at hlen
  have HIH := Lib.hid IH; have HR := Lib.hid H; have HC := Lib.hid hc; have HG := Lib.hid hg; have HA := Lib.hid hA; have HS1 := Lib.hid hs1; have HS2 := Lib.hid hs2
  have h0 : i + 2 ≤ m ∧ m + 2 ≤ k ∧ k ≤ n := by omega
  obtain ⟨h3, h4, h5⟩ := h0
  have HI := Lib.hid hi; have HK := Lib.hid hk; have HL := Lib.hid hlen; have HMM := Lib.hid hm
  clear IH H hc hg hA hi hk hlen hs1 hs2 hm
  have hm1 : ((m : Int) - (i : Int) == 1) = false := by simp; omega
  have hm2 : ((k : Int) - (m : Int) == 1) = false := by simp; omega
  have cm := Lib.hid (show ∀ wr, Mods [b] w wr → ∀ m, CmpI (wr.drewN m) B A nl cl ls from fun wr hm m => HC.out.mods (hm.drewN m) (by simpa using hB) (fun ad h => by simpa using HA.out ad h))
  obtain ⟨mid, hmid⟩ : ∃ mid, mid = (i + k) / 2 := ⟨_, rfl⟩
  have emid : ((i : Int) + (k : Int)) / 2 = (mid : Int) := by omega
  have hmb1 : i + k ≤ 2 * mid + 1 ∧ 2 * mid ≤ i + k := by omega
  obtain ⟨lo, hi, hcase⟩ : ∃ lo hi, (mid < m ∧ lo + k = mid + m ∧ hi = mid) ∨ (m ≤ mid ∧ lo = i ∧ hi = m) := by
    by_cases h : mid < m
    · exact ⟨mid + m - k, mid, .inl ⟨h, by omega, rfl⟩⟩
    · exact ⟨i, m, .inr ⟨by omega, rfl, rfl⟩⟩
  have hF : i ≤ lo ∧ lo ≤ hi ∧ hi ≤ mid ∧ hi ≤ m ∧ mid + m ≤ lo + k ∧ mid < k := by omega
  obtain ⟨f1, f2, f3, f4, f5, f6⟩ := hF
  have hs1l : s1.length = m - i := by have := HMM.out; have := HI.out; omega
  have hs2l : s2.length = k - m := by have := HMM.out; have := HK.out; omega
  have HS1L := Lib.hid hs1l; have HS2L := Lib.hid hs2l; have HMID := Lib.hid hmid; have HCASE := Lib.hid hcase
  clear hmid hs1l hs2l hcase
  obtain ⟨dm, hdm, HDM⟩ : ∃ dm, decide (mid < m) = dm ∧ Hid ((dm = true → mid < m) ∧ (dm = false → m ≤ mid)) := ⟨_, rfl, by constructor <;> intro h <;> simpa using h⟩
  cases dm
  all_goals
    go_enter Try.func58, Try.ntmps58
    go_wp2_with fail
    go_loopw [20, 21, 23] (fun u v h wr => ∃ (st rr : Nat), u = .int .i64 (st : Nat) ∧ v = .int .i64 (rr : Nat) ∧ lo ≤ st ∧ st ≤ rr ∧ rr ≤ hi ∧
      Hid (lo < st → ∃ x y, s1[st - 1 - i]? = some x ∧ s2[mid - st]? = some y ∧ keyI ls x ≤ keyI ls y) ∧
      Hid (rr < hi → ∃ x y, s1[rr - i]? = some x ∧ s2[mid - rr - 1]? = some y ∧ keyI ls y < keyI ls x) ∧ Hid (∃ q, wr = w.drewN q)) (fun u v _ _ => (intOf v - intOf u).toNat)
    case atStart =>
      refine ⟨lo, hi, ?_, ?_, Nat.le_refl _, f2, Nat.le_refl _, fun h => absurd h (by omega), fun h => absurd h (by omega), 0, rfl⟩
      · have := HCASE.out; have := HDM.out; simp at this; congr 1; omega
      · have := HCASE.out; have := HDM.out; simp at this; congr 1; omega
    case round =>
      obtain ⟨st, rr, rfl, rfl, g1, g2, g3, HLO, HHI, HQ⟩ := hrel
      have HRW := Lib.hid (show RowI wr base b n cap (p ++ (s1 ++ s2) ++ r) from by obtain ⟨q, e⟩ := HQ.out; rw [e]; exact HR.out.drewN q)
      have HMW := Lib.hid (show Mods [b] w wr from by obtain ⟨q, e⟩ := HQ.out; rw [e]; exact (Mods.refl _ _).drewN q)
      by_cases hlt : st < rr
      · have hh2 : (st + rr) / 2 < rr := by omega
        have hh3 : st ≤ (st + rr) / 2 := by omega
        generalize hh : (st + rr) / 2 = h at *
        have ehh : ((st : Int) + (rr : Int)) / 2 = (h : Int) := by omega
        have HH := Lib.hid hh; clear hh
        have hpl : p.length = i := HI.out.symm
        obtain ⟨j, hj⟩ : ∃ j, j = mid + m - 1 - h := ⟨_, rfl⟩
        have ej : (mid : Int) + (m : Int) - 1 - (h : Int) = (j : Int) := by omega
        have hjn : m ≤ j ∧ j < n ∧ h < n := by omega
        obtain ⟨j1, j2, j3⟩ := hjn
        have hjs : j - m < s2.length := by have := HS2L.out; omega
        have hhs : h - i < s1.length := by have := HS1L.out; omega
        obtain ⟨x, hx⟩ : ∃ x, s1[h - i]? = some x := ⟨_, List.getElem?_eq_getElem hhs⟩
        obtain ⟨y, hy⟩ : ∃ y, s2[j - m]? = some y := ⟨_, List.getElem?_eq_getElem hjs⟩
        have hr := HRW.out
        have ex : (p ++ (s1 ++ s2) ++ r)[h]? = some x := by
          rw [List.append_assoc, List.getElem?_append_right (by omega), List.append_assoc, List.getElem?_append_left (by omega), show h - p.length = h - i from by omega]
          exact hx
        have ey : (p ++ (s1 ++ s2) ++ r)[j]? = some y := by
          have := HMM.out
          rw [List.append_assoc, List.getElem?_append_right (by omega), List.append_assoc, List.getElem?_append_right (by omega), List.getElem?_append_left (by omega), show j - p.length - s1.length = j - m from by omega]
          exact hy
        obtain ⟨hc1, hf1⟩ := own_at hr (h : Int) (by omega) (by omega)
        obtain ⟨hc2, hf2⟩ := own_at hr (j : Int) (by omega) (by omega)
        rw [Int.toNat_natCast] at hc1 hc2 hf1 hf2
        rw [rd_of ex] at hc1
        rw [rd_of ey] at hc2
        have hgx : GoodI ls x := HG.out x (List.mem_append_left _ (List.mem_of_getElem? hx))
        have hgy : GoodI ls y := HG.out y (List.mem_append_right _ (List.mem_of_getElem? hy))
        have hord := fun q => order1 B A nl cl ls y x (wr.drewN q) (cm.out wr HMW.out q) hgy hgx
        have HORD := Lib.hid hord; have HR3 := Lib.hid hr; have HPL := Lib.hid hpl; have HX := Lib.hid hx; have HY := Lib.hid hy; have HJ := Lib.hid hj
        have kx : 1 ≤ rd ls x ∧ rd ls x ≤ 9223372036854775807 := hgx.2.2
        have ky : 1 ≤ rd ls y ∧ rd ls y ≤ 9223372036854775807 := hgy.2.2
        clear hr ex ey hgx hgy hord hpl hx hy hj
        have hi1 : (h : Int) < (n : Int) := by omega
        have hi2 : (j : Int) < (n : Int) := by omega
        have hw : IntKind.i64.wrap ((mid : Int) + (m : Int) - 1 - (h : Int)) = (j : Int) := by rw [IntWalk.i64_in _ (by omega)]; omega
        by_cases hk : rd ls y < rd ls x
        · have HKK : Hid (keyI ls y < keyI ls x) := Lib.hid (show keyI ls y < keyI ls x from hk)
          generalize rd ls x = kx0 at *
          generalize rd ls y = ky0 at *
          have hd : ky0 - kx0 < 0 := by omega
          have hdb : decide (ky0 - kx0 < 0) = true := by simp; omega
          go_wp2_with fail
          go_quiet ((go_at_call 33; exact Calls.quiet_of (HORD.out _)))
          go_wp2_with fail
          go_roundw
          case rel =>
            refine ⟨st, h, rfl, rfl, g1, by omega, by omega, HLO, ?_, ?_⟩
            · exact fun _ => ⟨x, y, HX.out, by have h1 := HY.out; have := HJ.out; rw [show j - m = mid - h - 1 from by omega] at h1; exact h1, HKK.out⟩
            · obtain ⟨q, e⟩ := HQ.out
              exact ⟨q + nq, by rw [e, World.drewN_drewN]⟩
          case measure => simp [intOf]; omega
        · have HKK : Hid (keyI ls x ≤ keyI ls y) := Lib.hid (show keyI ls x ≤ keyI ls y from by unfold keyI; omega)
          generalize rd ls x = kx0 at *
          generalize rd ls y = ky0 at *
          have hd : ¬ ky0 - kx0 < 0 := by omega
          have hdb : decide (ky0 - kx0 < 0) = false := by simp; omega
          go_wp2_with fail
          go_quiet ((go_at_call 33; exact Calls.quiet_of (HORD.out _)))
          go_wp2_with fail
          go_roundw
          case rel =>
            refine ⟨h + 1, rr, by go_num, rfl, by omega, by omega, by omega, ?_, HHI, ?_⟩
            · exact fun _ => ⟨x, y, by rw [show h + 1 - 1 - i = h - i from by omega]; exact HX.out, by have h1 := HY.out; have := HJ.out; rw [show j - m = mid - (h + 1) from by omega] at h1; exact h1, HKK.out⟩
            · obtain ⟨q, e⟩ := HQ.out
              exact ⟨q + nq, by rw [e, World.drewN_drewN]⟩
          case measure => simp [intOf]; omega
      · have hsr : st = rr := by omega
        subst hsr
        obtain ⟨en, hen⟩ : ∃ en, en = mid + m - st := ⟨_, rfl⟩
        have een : (mid : Int) + (m : Int) - (st : Int) = (en : Int) := by omega
        have henb : m ≤ en ∧ en ≤ k ∧ st ≤ m ∧ st ≤ mid ∧ i ≤ st ∧ mid ≤ en := by omega
        obtain ⟨e1, e2, e3, e4, e5, e6⟩ := henb
        have hpl : p.length = i := HI.out.symm
        obtain ⟨u1, u2, hu, hu1, hu2⟩ : ∃ u1 u2, s1 = u1 ++ u2 ∧ u1.length = st - i ∧ u2.length = m - st := ⟨s1.take (st - i), s1.drop (st - i), by simp, by have := HS1L.out; simp; omega, by have := HS1L.out; simp; omega⟩
        obtain ⟨v1, v2, hv, hv1, hv2⟩ : ∃ v1 v2, s2 = v1 ++ v2 ∧ v1.length = mid - st ∧ v2.length = k - en := ⟨s2.take (mid - st), s2.drop (mid - st), by simp, by have := HS2L.out; simp; omega, by have := HS2L.out; simp; omega⟩
        have hu1' : u1 = s1.take (st - i) := by rw [hu, ← hu1]; simp
        have hu2' : u2 = s1.drop (st - i) := by rw [hu, ← hu1]; simp
        have hv1' : v1 = s2.take (mid - st) := by rw [hv, ← hv1]; simp
        have hv2' : v2 = s2.drop (mid - st) := by rw [hv, ← hv1]; simp
        have hd9 := HDM.out
        simp at hd9
        have hord1 : ∀ a ∈ u1, ∀ c ∈ v2, keyI ls a ≤ keyI ls c := by
          by_cases h : lo < st
          · obtain ⟨x, y, hx, hy, hxy⟩ := HLO.out h
            intro a ha c hc
            rw [hu1'] at ha
            rw [hv2'] at hc
            have q1 := sorted_take HS1.out hx a (by rw [show st - 1 - i + 1 = st - i from by omega]; exact ha)
            have q2 := sorted_drop HS2.out hy c hc
            omega
          · rcases HCASE.out with ⟨_, hc1, _⟩ | ⟨_, hc1, _⟩
            · have : v2 = [] := List.eq_nil_of_length_eq_zero (by omega)
              rw [this]; simp
            · have : u1 = [] := List.eq_nil_of_length_eq_zero (by omega)
              rw [this]; simp
        have hord2 : ∀ a ∈ u2, ∀ c ∈ v1, keyI ls c < keyI ls a := by
          by_cases h : st < hi
          · obtain ⟨x, y, hx, hy, hxy⟩ := HHI.out h
            intro a ha c hc
            rw [hu2'] at ha
            rw [hv1'] at hc
            have q1 := sorted_drop HS1.out hx a ha
            have q2 := sorted_take HS2.out hy c (by rw [show mid - st - 1 + 1 = mid - st from by omega]; exact hc)
            omega
          · rcases HCASE.out with ⟨_, _, hc1⟩ | ⟨_, _, hc1⟩
            · have : v1 = [] := List.eq_nil_of_length_eq_zero (by omega)
              rw [this]; simp
            · have : u2 = [] := List.eq_nil_of_length_eq_zero (by omega)
              rw [this]; simp
        have hsu : Sorted (keyI ls) (u1 ++ u2) := by rw [← hu]; exact HS1.out
        have hsv : Sorted (keyI ls) (v1 ++ v2) := by rw [← hv]; exact HS2.out
        have hgood : ∀ z, z ∈ u1 ∨ z ∈ u2 ∨ z ∈ v1 ∨ z ∈ v2 → GoodI ls z := fun z hz => HG.out z (by rw [hu, hv]; simp only [List.mem_append]; rcases hz with h | h | h | h <;> simp [h])
        have hjoin : ∀ L R, Sorted (keyI ls) L → Sorted (keyI ls) R → FEq (keyI ls) (u1 ++ v1) L → FEq (keyI ls) (u2 ++ v2) R → Sorted (keyI ls) (L ++ R) ∧ FEq (keyI ls) (s1 ++ s2) (L ++ R) := fun L R a b c d => by
          rw [hu, hv]; exact merge_join hsu hsv hord1 hord2 a b c d
        have hrow := HRW.out
        rw [hu, hv] at hrow
        have HROW := Lib.hid hrow; have HJOIN := Lib.hid hjoin; have HGOOD := Lib.hid hgood; have HSU := Lib.hid (sorted_app.1 hsu); have HSV := Lib.hid (sorted_app.1 hsv)
        have HPL := Lib.hid hpl; have HU1 := Lib.hid hu1; have HU2 := Lib.hid hu2; have HV1 := Lib.hid hv1; have HV2 := Lib.hid hv2; have HEN := Lib.hid hen
        have hNN : u1.length + v1.length ≤ N ∧ u2.length + v2.length ≤ N := by have := HS1L.out; have := HS2L.out; constructor <;> omega
        have HNN := Lib.hid hNN
        clear hrow hjoin hgood hsu hsv hord1 hord2 hu1' hu2' hv1' hv2' hu hv hu1 hu2 hv1 hv2 hpl hen hNN hd9 hlt
        have HCM := Lib.hid (show ∀ wr, Mods [b] w wr → CmpI wr B A nl cl ls from fun wr hm => cm.out wr hm 0)
        by_cases c1 : st < m ∧ m < en
        · obtain ⟨c1a, c1b⟩ := c1
          have b1 : (decide (st < m) && decide (m < en)) = true := by simp; omega
          go_wp2_with fail
          refine (rotateI base b n cap _ (p ++ u1) u2 v1 (v2 ++ r) _ _ _ _ (by have := HPL.out; have := HU1.out; simp; omega) (by have := HPL.out; have := HU1.out; have := HU2.out; simp; omega) (by have := HPL.out; have := HU1.out; have := HU2.out; have := HV1.out; have := HEN.out; simp; omega) hn (by have := HU2.out; omega) (by have := HV1.out; have := HEN.out; omega) (by simpa only [List.append_assoc] using HROW.out)).mono ?_
          rintro e w2 ⟨rfl, hR2, hM2⟩
          have HR2 := Lib.hid (show RowI w2 base b n cap (p ++ ((u1 ++ v1) ++ (u2 ++ v2)) ++ r) from by simpa only [List.append_assoc] using hR2)
          have HM2 := Lib.hid (HMW.out.trans hM2)
          clear hR2 hM2
          by_cases c2 : i < st ∧ st < mid
          · obtain ⟨c2a, c2b⟩ := c2
            have b2 : (decide (i < st) && decide (st < mid)) = true := by simp; omega
            go_wp2_with fail
            refine (HIH.out base b n cap B A nl cl ls p u1 v1 ((u2 ++ v2) ++ r) w2 _ _ _ HNN.out.1 HI.out (by have := HPL.out; have := HU1.out; omega) (by have := HPL.out; have := HU1.out; have := HV1.out; omega) (by have := HU1.out; omega) (by have := HV1.out; omega) hn hB HA.out (HCM.out _ HM2.out) (fun z hz => HGOOD.out z (by rcases List.mem_append.1 hz with h | h <;> simp [h])) HSU.out.1 HSV.out.1 (by simpa only [List.append_assoc] using HR2.out)).mono ?_
            rintro e w3 ⟨rfl, ⟨L, hL1, hL2, hR3⟩, hM3⟩
            have HR3 := Lib.hid (show RowI w3 base b n cap (p ++ (L ++ (u2 ++ v2)) ++ r) from by simpa only [List.append_assoc] using hR3)
            have HL := Lib.hid (And.intro hL1 hL2); have HM3 := Lib.hid (HM2.out.trans hM3)
            clear hL1 hL2 hR3 hM3
            by_cases c3 : mid < en ∧ en < k
            · obtain ⟨c3a, c3b⟩ := c3
              have b3 : (decide (mid < en) && decide (en < k)) = true := by simp; omega
              go_wp2_with fail
              refine (HIH.out base b n cap B A nl cl ls (p ++ L) u2 v2 r w3 _ _ _ HNN.out.2 (by have := HPL.out; have := HL.out.2.length; have := HU1.out; have := HV1.out; simp at *; omega) (by have := HPL.out; have := HL.out.2.length; have := HU1.out; have := HV1.out; have := HU2.out; have := HEN.out; simp at *; omega) (by have := HPL.out; have := HL.out.2.length; have := HU1.out; have := HV1.out; have := HU2.out; have := HV2.out; have := HEN.out; simp at *; omega) (by have := HU2.out; have := HEN.out; omega) (by have := HV2.out; omega) hn hB HA.out (HCM.out _ HM3.out) (fun z hz => HGOOD.out z (by rcases List.mem_append.1 hz with h | h <;> simp [h])) HSU.out.2.1 HSV.out.2.1 (by simpa only [List.append_assoc] using HR3.out)).mono ?_
              rintro e w4 ⟨rfl, ⟨R, hR1, hR2, hR4⟩, hM4⟩
              have HR4 := Lib.hid hR4; have HRR := Lib.hid (And.intro hR1 hR2); have HM4 := Lib.hid hM4
              clear hR1 hR2 hR4 hM4
              go_wp2_with fail
              go_end0
              obtain ⟨q1, q2⟩ := HJOIN.out L R HL.out.1 HRR.out.1 HL.out.2 HRR.out.2
              exact ⟨rfl, ⟨L ++ R, q1, q2, by simpa only [List.append_assoc] using HR4.out⟩, HM3.out.trans HM4.out⟩
            · have b3 : (decide (mid < en) && decide (en < k)) = false := by simp; omega
              have hRs : Sorted (keyI ls) (u2 ++ v2) := by
                by_cases h : mid < en
                · have : v2 = [] := List.eq_nil_of_length_eq_zero (by have := HV2.out; omega)
                  rw [this, List.append_nil]; exact HSU.out.2.1
                · have : u2 = [] := List.eq_nil_of_length_eq_zero (by have := HU2.out; have := HEN.out; omega)
                  rw [this]; exact HSV.out.2.1
              have HRS := Lib.hid hRs; clear hRs
              go_wp2_with fail
              all_goals
                go_end0
                obtain ⟨q1, q2⟩ := HJOIN.out L (u2 ++ v2) HL.out.1 HRS.out HL.out.2 (FEq.refl _ _)
                exact ⟨rfl, ⟨L ++ (u2 ++ v2), q1, q2, HR3.out⟩, HM3.out⟩
          · have b2 : (decide (i < st) && decide (st < mid)) = false := by simp; omega
            have hLs : Sorted (keyI ls) (u1 ++ v1) := by
              by_cases h : i < st
              · have : v1 = [] := List.eq_nil_of_length_eq_zero (by have := HV1.out; omega)
                rw [this, List.append_nil]; exact HSU.out.1
              · have : u1 = [] := List.eq_nil_of_length_eq_zero (by have := HU1.out; omega)
                rw [this]; exact HSV.out.1
            obtain ⟨L, HLe⟩ : ∃ L, Hid (L = u1 ++ v1) := ⟨_, rfl⟩
            have HL := Lib.hid (show Sorted (keyI ls) L ∧ FEq (keyI ls) (u1 ++ v1) L from by rw [HLe.out]; exact ⟨hLs, FEq.refl _ _⟩)
            have HR3 := Lib.hid (show RowI w2 base b n cap (p ++ (L ++ (u2 ++ v2)) ++ r) from by rw [HLe.out]; exact HR2.out)
            have HM3 := HM2
            clear hLs
            obtain ⟨w3, hw3⟩ : ∃ w3, w3 = w2 := ⟨_, rfl⟩
            subst hw3
            by_cases c3 : mid < en ∧ en < k
            · obtain ⟨c3a, c3b⟩ := c3
              have b3 : (decide (mid < en) && decide (en < k)) = true := by simp; omega
              go_wp2_with fail
              refine (HIH.out base b n cap B A nl cl ls (p ++ L) u2 v2 r w3 _ _ _ HNN.out.2 (by have := HPL.out; have := HL.out.2.length; have := HU1.out; have := HV1.out; simp at *; omega) (by have := HPL.out; have := HL.out.2.length; have := HU1.out; have := HV1.out; have := HU2.out; have := HEN.out; simp at *; omega) (by have := HPL.out; have := HL.out.2.length; have := HU1.out; have := HV1.out; have := HU2.out; have := HV2.out; have := HEN.out; simp at *; omega) (by have := HU2.out; have := HEN.out; omega) (by have := HV2.out; omega) hn hB HA.out (HCM.out _ HM3.out) (fun z hz => HGOOD.out z (by rcases List.mem_append.1 hz with h | h <;> simp [h])) HSU.out.2.1 HSV.out.2.1 (by simpa only [List.append_assoc] using HR3.out)).mono ?_
              rintro e w4 ⟨rfl, ⟨R, hR1, hR2, hR4⟩, hM4⟩
              have HR4 := Lib.hid hR4; have HRR := Lib.hid (And.intro hR1 hR2); have HM4 := Lib.hid hM4
              clear hR1 hR2 hR4 hM4
              go_wp2_with fail
              go_end0
              obtain ⟨q1, q2⟩ := HJOIN.out L R HL.out.1 HRR.out.1 HL.out.2 HRR.out.2
              exact ⟨rfl, ⟨L ++ R, q1, q2, by simpa only [List.append_assoc] using HR4.out⟩, HM3.out.trans HM4.out⟩
            · have b3 : (decide (mid < en) && decide (en < k)) = false := by simp; omega
              have hRs : Sorted (keyI ls) (u2 ++ v2) := by
                by_cases h : mid < en
                · have : v2 = [] := List.eq_nil_of_length_eq_zero (by have := HV2.out; omega)
                  rw [this, List.append_nil]; exact HSU.out.2.1
                · have : u2 = [] := List.eq_nil_of_length_eq_zero (by have := HU2.out; have := HEN.out; omega)
                  rw [this]; exact HSV.out.2.1
              have HRS := Lib.hid hRs; clear hRs
              go_wp2_with fail
              all_goals
                go_end0
                obtain ⟨q1, q2⟩ := HJOIN.out L (u2 ++ v2) HL.out.1 HRS.out HL.out.2 (FEq.refl _ _)
                exact ⟨rfl, ⟨L ++ (u2 ++ v2), q1, q2, HR3.out⟩, HM3.out⟩
        · have b1 : (decide (st < m) && decide (m < en)) = false := by simp; omega
          have hR2 : RowI wr base b n cap (p ++ ((u1 ++ v1) ++ (u2 ++ v2)) ++ r) := by
            have h0 := HROW.out
            by_cases h : st < m
            · have : v1 = [] := List.eq_nil_of_length_eq_zero (by have := HV1.out; have := HEN.out; omega)
              rw [this] at h0 ⊢; simpa using h0
            · have : u2 = [] := List.eq_nil_of_length_eq_zero (by have := HU2.out; omega)
              rw [this] at h0 ⊢; simpa using h0
          have HR2 := Lib.hid hR2; have HM2 := HMW
          clear hR2
          obtain ⟨w2, hw2⟩ : ∃ w2, w2 = wr := ⟨_, rfl⟩
          subst hw2
          by_cases c2 : i < st ∧ st < mid
          · obtain ⟨c2a, c2b⟩ := c2
            have b2 : (decide (i < st) && decide (st < mid)) = true := by simp; omega
            go_wp2_with fail
            refine (HIH.out base b n cap B A nl cl ls p u1 v1 ((u2 ++ v2) ++ r) w2 _ _ _ HNN.out.1 HI.out (by have := HPL.out; have := HU1.out; omega) (by have := HPL.out; have := HU1.out; have := HV1.out; omega) (by have := HU1.out; omega) (by have := HV1.out; omega) hn hB HA.out (HCM.out _ HM2.out) (fun z hz => HGOOD.out z (by rcases List.mem_append.1 hz with h | h <;> simp [h])) HSU.out.1 HSV.out.1 (by simpa only [List.append_assoc] using HR2.out)).mono ?_
            rintro e w3 ⟨rfl, ⟨L, hL1, hL2, hR3⟩, hM3⟩
            have HR3 := Lib.hid (show RowI w3 base b n cap (p ++ (L ++ (u2 ++ v2)) ++ r) from by simpa only [List.append_assoc] using hR3)
            have HL := Lib.hid (And.intro hL1 hL2); have HM3 := Lib.hid (HM2.out.trans hM3)
            clear hL1 hL2 hR3 hM3
            by_cases c3 : mid < en ∧ en < k
            · obtain ⟨c3a, c3b⟩ := c3
              have b3 : (decide (mid < en) && decide (en < k)) = true := by simp; omega
              go_wp2_with fail
              refine (HIH.out base b n cap B A nl cl ls (p ++ L) u2 v2 r w3 _ _ _ HNN.out.2 (by have := HPL.out; have := HL.out.2.length; have := HU1.out; have := HV1.out; simp at *; omega) (by have := HPL.out; have := HL.out.2.length; have := HU1.out; have := HV1.out; have := HU2.out; have := HEN.out; simp at *; omega) (by have := HPL.out; have := HL.out.2.length; have := HU1.out; have := HV1.out; have := HU2.out; have := HV2.out; have := HEN.out; simp at *; omega) (by have := HU2.out; have := HEN.out; omega) (by have := HV2.out; omega) hn hB HA.out (HCM.out _ HM3.out) (fun z hz => HGOOD.out z (by rcases List.mem_append.1 hz with h | h <;> simp [h])) HSU.out.2.1 HSV.out.2.1 (by simpa only [List.append_assoc] using HR3.out)).mono ?_
              rintro e w4 ⟨rfl, ⟨R, hR1, hR2, hR4⟩, hM4⟩
              have HR4 := Lib.hid hR4; have HRR := Lib.hid (And.intro hR1 hR2); have HM4 := Lib.hid hM4
              clear hR1 hR2 hR4 hM4
              go_wp2_with fail
              go_end0
              obtain ⟨q1, q2⟩ := HJOIN.out L R HL.out.1 HRR.out.1 HL.out.2 HRR.out.2
              exact ⟨rfl, ⟨L ++ R, q1, q2, by simpa only [List.append_assoc] using HR4.out⟩, HM3.out.trans HM4.out⟩
            · have b3 : (decide (mid < en) && decide (en < k)) = false := by simp; omega
              have hRs : Sorted (keyI ls) (u2 ++ v2) := by
                by_cases h : mid < en
                · have : v2 = [] := List.eq_nil_of_length_eq_zero (by have := HV2.out; omega)
                  rw [this, List.append_nil]; exact HSU.out.2.1
                · have : u2 = [] := List.eq_nil_of_length_eq_zero (by have := HU2.out; have := HEN.out; omega)
                  rw [this]; exact HSV.out.2.1
              have HRS := Lib.hid hRs; clear hRs
              go_wp2_with fail
              all_goals
                go_end0
                obtain ⟨q1, q2⟩ := HJOIN.out L (u2 ++ v2) HL.out.1 HRS.out HL.out.2 (FEq.refl _ _)
                exact ⟨rfl, ⟨L ++ (u2 ++ v2), q1, q2, HR3.out⟩, HM3.out⟩
          · have b2 : (decide (i < st) && decide (st < mid)) = false := by simp; omega
            have hLs : Sorted (keyI ls) (u1 ++ v1) := by
              by_cases h : i < st
              · have : v1 = [] := List.eq_nil_of_length_eq_zero (by have := HV1.out; omega)
                rw [this, List.append_nil]; exact HSU.out.1
              · have : u1 = [] := List.eq_nil_of_length_eq_zero (by have := HU1.out; omega)
                rw [this]; exact HSV.out.1
            obtain ⟨L, HLe⟩ : ∃ L, Hid (L = u1 ++ v1) := ⟨_, rfl⟩
            have HL := Lib.hid (show Sorted (keyI ls) L ∧ FEq (keyI ls) (u1 ++ v1) L from by rw [HLe.out]; exact ⟨hLs, FEq.refl _ _⟩)
            have HR3 := Lib.hid (show RowI w2 base b n cap (p ++ (L ++ (u2 ++ v2)) ++ r) from by rw [HLe.out]; exact HR2.out)
            have HM3 := HM2
            clear hLs
            obtain ⟨w3, hw3⟩ : ∃ w3, w3 = w2 := ⟨_, rfl⟩
            subst hw3
            by_cases c3 : mid < en ∧ en < k
            · obtain ⟨c3a, c3b⟩ := c3
              have b3 : (decide (mid < en) && decide (en < k)) = true := by simp; omega
              go_wp2_with fail
              refine (HIH.out base b n cap B A nl cl ls (p ++ L) u2 v2 r w3 _ _ _ HNN.out.2 (by have := HPL.out; have := HL.out.2.length; have := HU1.out; have := HV1.out; simp at *; omega) (by have := HPL.out; have := HL.out.2.length; have := HU1.out; have := HV1.out; have := HU2.out; have := HEN.out; simp at *; omega) (by have := HPL.out; have := HL.out.2.length; have := HU1.out; have := HV1.out; have := HU2.out; have := HV2.out; have := HEN.out; simp at *; omega) (by have := HU2.out; have := HEN.out; omega) (by have := HV2.out; omega) hn hB HA.out (HCM.out _ HM3.out) (fun z hz => HGOOD.out z (by rcases List.mem_append.1 hz with h | h <;> simp [h])) HSU.out.2.1 HSV.out.2.1 (by simpa only [List.append_assoc] using HR3.out)).mono ?_
              rintro e w4 ⟨rfl, ⟨R, hR1, hR2, hR4⟩, hM4⟩
              have HR4 := Lib.hid hR4; have HRR := Lib.hid (And.intro hR1 hR2); have HM4 := Lib.hid hM4
              clear hR1 hR2 hR4 hM4
              go_wp2_with fail
              go_end0
              obtain ⟨q1, q2⟩ := HJOIN.out L R HL.out.1 HRR.out.1 HL.out.2 HRR.out.2
              exact ⟨rfl, ⟨L ++ R, q1, q2, by simpa only [List.append_assoc] using HR4.out⟩, HM3.out.trans HM4.out⟩
            · have b3 : (decide (mid < en) && decide (en < k)) = false := by simp; omega
              have hRs : Sorted (keyI ls) (u2 ++ v2) := by
                by_cases h : mid < en
                · have : v2 = [] := List.eq_nil_of_length_eq_zero (by have := HV2.out; omega)
                  rw [this, List.append_nil]; exact HSU.out.2.1
                · have : u2 = [] := List.eq_nil_of_length_eq_zero (by have := HU2.out; have := HEN.out; omega)
                  rw [this]; exact HSV.out.2.1
              have HRS := Lib.hid hRs; clear hRs
              go_wp2_with fail
              all_goals
                go_end0
                obtain ⟨q1, q2⟩ := HJOIN.out L (u2 ++ v2) HL.out.1 HRS.out HL.out.2 (FEq.refl _ _)
                exact ⟨rfl, ⟨L ++ (u2 ++ v2), q1, q2, HR3.out⟩, HM3.out⟩
end Go.Proofs.Ytbljoihnjhllhaa

/- The library's stable sort of symbols by their lengths. -/
namespace Go.Proofs.Ytbljoihnjhllhaa
open Go.RowKit
open Go.Proofs.YtbljoihnjhllhaaW.PrintWords
open Srt

theorem symMergeI (N : Nat) : SymMergeI N := by
  induction N with
  | zero => intro base b n cap B A nl cl ls p s1 s2 r w i m k hN hi hm hk h1 h2; omega
  | succ N ih =>
    intro base b n cap B A nl cl ls p s1 s2 r w i m k hN hi hm hk h1 h2 hn hB hA hc hg hs1 hs2 H
    by_cases e1 : s1.length = 1
    · obtain ⟨x, rfl⟩ := List.length_eq_one_iff.1 e1
      simp only [List.length_cons, List.length_nil] at hm hk
      exact symMergeA base b n cap B A nl cl ls p s2 r x w i m k hi (by omega) (by omega) hn hB hA hc hg hs2 H
    · by_cases e2 : s2.length = 1
      · obtain ⟨x, rfl⟩ := List.length_eq_one_iff.1 e2
        simp only [List.length_cons, List.length_nil] at hk
        exact symMergeB base b n cap B A nl cl ls p s1 r x w i m k hi hm (by omega) (by omega) hn hB hA hc (fun y hy => hg y (by simp at hy ⊢; exact hy.symm)) hs1 H
      · exact symMergeC N ih base b n cap B A nl cl ls p s1 s2 r w i m k hN hi hm hk (by omega) (by omega) hn hB hA hc hg hs1 hs2 H

set_option maxHeartbeats 2000000 in
theorem stableI (base b n cap B : Nat) (A : Option Addr) (nl cl : Nat) (ls xs : List Int) (w : World) (hn : n ≤ 140737488351232)
    (hB : B ≠ b) (hA : ∀ ad, A = some ad → ad.block ≠ b) (hc : CmpI w B A nl cl ls) (hg : ∀ x ∈ xs, GoodI ls x) (H : RowI w base b n cap xs) :
    Calls Try.prog 46 #[.slice (some ⟨b, 0, none⟩) n cap, .int .i64 (n : Nat), cmpI B] w
      fun e w' => e = .returned (.tuple #[]) ∧ (∃ s', Sorted (keyI ls) s' ∧ FEq (keyI ls) xs s' ∧ RowI w' base b n cap s') ∧ Mods [b] w w' := by
  have hlen := H.length
  have HR := Lib.hid H; have HC := Lib.hid hc; have HG := Lib.hid hg; have HA := Lib.hid hA; have HL := Lib.hid hlen
  clear H hc hg hA hlen
  have HCM := Lib.hid (show ∀ wr, Mods [b] w wr → CmpI wr B A nl cl ls from fun wr hm => HC.out.mods hm (by simpa using hB) (fun ad h => by simpa using HA.out ad h))
  go_enter Try.func46, Try.ntmps46
  go_wp2_with fail
  go_loopw [7, 8] (fun x y wr => ∃ (a : Nat) (Rs : List (List Int)) (T : List Int), x = .int .i64 (a : Nat) ∧ y = .int .i64 ((a : Int) + 20) ∧ a ≤ n ∧ Hid (Rs.flatten.length = a ∧ a + T.length = n ∧ Full (keyI ls) 20 Rs ∧ FEq (keyI ls) xs (Rs.flatten ++ T)) ∧ Hid (RowI wr base b n cap (Rs.flatten ++ T)) ∧ Hid (Mods [b] w wr)) (fun x _ _ => n - (intOf x).toNat)
  case atStart => exact ⟨0, [], xs, rfl, by simp, by omega, ⟨by simp, by have := HL.out; omega, Full.nil _ _, by simpa using FEq.refl _ _⟩, by simpa [Hid] using HR.out, Mods.refl _ _⟩
  case round =>
    obtain ⟨a, Rs, T, rfl, rfl, han, HF, HRW, HM⟩ := hrel
    by_cases hlt : a + 20 ≤ n
    · have hle : (a : Int) + 20 ≤ (n : Int) := by omega
      obtain ⟨t1, T', hT, ht1⟩ : ∃ t1 T', T = t1 ++ T' ∧ t1.length = 20 := ⟨T.take 20, T.drop 20, by simp, by have := HF.out.2.1; simp; omega⟩
      have HT := Lib.hid hT; have HT1 := Lib.hid ht1
      clear hT ht1
      go_wp2_with fail
      refine (insertionI base b n cap B A nl cl ls Rs.flatten t1 T' wr _ _ (by have := HF.out.1; omega) (by have := HF.out.1; have := HT1.out; omega) hn hB HA.out (HCM.out _ HM.out) (fun x hx => HG.out x ((HF.out.2.2.2.mem x).2 (by rw [HT.out]; simp [hx]))) (by have h := HRW.out; rw [HT.out] at h; simpa only [List.append_assoc] using h)).mono ?_
      rintro e w2 ⟨rfl, ⟨s', hs1, hs2, hR⟩, hM⟩
      have HS := Lib.hid (And.intro hs1 hs2); have HR2 := Lib.hid hR; have HM2 := Lib.hid hM
      clear hs1 hs2 hR hM
      go_wp2_with fail
      go_roundw
      case rel =>
        obtain ⟨q1, q2, q3, q4⟩ := HF.out
        have hsl := HS.out.2.length
        have := HT1.out
        refine ⟨a + 20, Rs ++ [s'], T', by go_num, by go_num, by omega, ⟨by rw [List.flatten_append, List.length_append, List.flatten_singleton]; omega, ?_, q3.snoc (by omega) HS.out.1, ?_⟩, by simpa [Hid] using HR2.out, HM.out.trans HM2.out⟩
        · rw [HT.out, List.length_append] at q2; omega
        · refine q4.trans ?_
          rw [HT.out]
          have h := (FEq.refl (keyI ls) Rs.flatten).app (HS.out.2.app (FEq.refl _ T'))
          simpa using h
      case measure => simp [intOf]; omega
    · have hle : ¬ (a : Int) + 20 ≤ (n : Int) := by omega
      go_wp2_with fail
      refine (insertionI base b n cap B A nl cl ls Rs.flatten T [] wr _ _ (by have := HF.out.1; omega) (by have := HF.out.1; have := HF.out.2.1; omega) hn hB HA.out (HCM.out _ HM.out) (fun x hx => HG.out x ((HF.out.2.2.2.mem x).2 (by simp [hx]))) (by simpa using HRW.out)).mono ?_
      rintro e w2 ⟨rfl, ⟨s', hs1, hs2, hR⟩, hM⟩
      have hst : ∃ (Rs : List (List Int)) (t : List Int), t.length < 20 ∧ (Rs.flatten ++ t).length = n ∧ Full (keyI ls) 20 Rs ∧ Sorted (keyI ls) t ∧ FEq (keyI ls) xs (Rs.flatten ++ t) ∧ RowI w2 base b n cap (Rs.flatten ++ t) ∧ Mods [b] w w2 := by
        obtain ⟨q1, q2, q3, q4⟩ := HF.out
        have hsl := hs2.length
        exact ⟨Rs, s', by omega, by simp only [List.length_append]; omega, q3, hs1, q4.trans ((FEq.refl _ _).app hs2), by simpa using hR, HM.out.trans hM⟩
      have HST := Lib.hid hst
      clear hst hs1 hs2 hR hM HF HRW HM
      obtain ⟨wo, hwo⟩ : ∃ wo : World, wo = w2 := ⟨_, rfl⟩
      subst hwo
      go_wp2_with fail
      go_loopw [6, 7, 8, 9] (fun x y z v wr => ∃ (bs : Nat), x = .int .i64 (bs : Nat) ∧ 20 ≤ bs ∧ bs ≤ 2 * n + 20 ∧ Hid (∃ (Rs : List (List Int)) (t : List Int), t.length < bs ∧ (Rs.flatten ++ t).length = n ∧ Full (keyI ls) bs Rs ∧ Sorted (keyI ls) t ∧ FEq (keyI ls) xs (Rs.flatten ++ t) ∧ RowI wr base b n cap (Rs.flatten ++ t) ∧ Mods [b] w wr)) (fun x _ _ _ _ => n - (intOf x).toNat)
      case atStart => exact ⟨20, rfl, by omega, by omega, HST.out⟩
      case round =>
        obtain ⟨bs, rfl, hbs, hbs2, HS⟩ := hrel
        by_cases hbn : bs < n
        · obtain ⟨wo, hwo⟩ : ∃ wo : World, wo = wr := ⟨_, rfl⟩
          subst hwo
          go_wp2_with fail
          go_loopw [7, 8] (fun x y wr => ∃ (a : Nat) (Es Rs : List (List Int)) (t : List Int), x = .int .i64 (a : Nat) ∧ y = .int .i64 ((a : Int) + 2 * bs) ∧ a ≤ n ∧ Hid (Es.flatten.length = a ∧ t.length < bs ∧ a + Rs.length * bs + t.length = n ∧ Full (keyI ls) (2 * bs) Es ∧ Full (keyI ls) bs Rs ∧ Sorted (keyI ls) t ∧ FEq (keyI ls) xs (Es.flatten ++ Rs.flatten ++ t)) ∧ Hid (RowI wr base b n cap (Es.flatten ++ Rs.flatten ++ t)) ∧ Hid (Mods [b] w wr)) (fun x _ _ => n - (intOf x).toNat)
          case atStart =>
            obtain ⟨Rs, t, q1, q2, q3, q4, q5, q6, q7⟩ := HS.out
            exact ⟨0, [], Rs, t, rfl, by simp, by omega, ⟨by simp, q1, by rw [List.length_append, q3.length] at q2; omega, Full.nil _ _, q3, q4, by simpa using q5⟩, by simpa [Hid] using q6, q7⟩
          case round =>
            obtain ⟨a, Es, Rs, t, rfl, rfl, han, HF, HRW, HM⟩ := hrel
            by_cases hlt : a + 2 * bs ≤ n
            · have hle : (a : Int) + 2 * (bs : Int) ≤ (n : Int) := by omega
              obtain ⟨s1, s2, Rs', hRs⟩ : ∃ s1 s2 Rs', Rs = s1 :: s2 :: Rs' := by
                obtain ⟨q1, q2, q3, _⟩ := HF.out
                match Rs, q3 with
                | [], q3 => simp at q3; omega
                | [s], q3 => simp at q3; omega
                | s1 :: s2 :: Rs', _ => exact ⟨s1, s2, Rs', rfl⟩
              subst hRs
              have hs12 : s1.length = bs ∧ s2.length = bs := ⟨(HF.out.2.2.2.2.1 s1 (by simp)).1, (HF.out.2.2.2.2.1 s2 (by simp)).1⟩
              have HS12 := Lib.hid hs12
              clear hs12
              go_wp2_with fail
              have hab : (a : Int) + (bs : Int) = ((a + bs : Nat) : Int) := by omega
              have ha2 : (a : Int) + 2 * (bs : Int) = ((a + 2 * bs : Nat) : Int) := by omega
              rw [hab, ha2]
              refine (symMergeI (s1.length + s2.length) base b n cap B A nl cl ls Es.flatten s1 s2 (Rs'.flatten ++ t) wr _ _ _ (Nat.le_refl _) HF.out.1.symm (by rw [HF.out.1, HS12.out.1]) (by rw [HF.out.1, HS12.out.1, HS12.out.2]; omega) (by have := HS12.out; omega) (by have := HS12.out; omega) hn hB HA.out (HCM.out _ HM.out) (fun x hx => HG.out x ((HF.out.2.2.2.2.2.2.mem x).2 (by simp at hx ⊢; rcases hx with h | h <;> simp [h]))) (HF.out.2.2.2.2.1 s1 (by simp)).2 (HF.out.2.2.2.2.1 s2 (by simp)).2 (by have h := HRW.out; simpa using h)).mono ?_
              rw [← hab, ← ha2]
              clear hab ha2
              rintro e w2 ⟨rfl, ⟨s', hs1, hs2, hR⟩, hM⟩
              have HSS := Lib.hid (And.intro hs1 hs2); have HR2 := Lib.hid hR; have HM2 := Lib.hid hM
              clear hs1 hs2 hR hM
              go_wp2_with fail
              go_roundw
              case rel =>
                obtain ⟨q1, q2, q3, q4, q5, q6, q7⟩ := HF.out
                have hsl := HSS.out.2.length
                have h12 := HS12.out
                rw [List.length_append] at hsl
                refine ⟨a + 2 * bs, Es ++ [s'], Rs', t, by go_num, by go_num, by omega, ⟨by rw [List.flatten_append, List.length_append, List.flatten_singleton]; omega, q2, ?_, q4.snoc (by omega) HSS.out.1, q5.tail.tail, q6, ?_⟩, by simpa [Hid] using HR2.out, HM.out.trans HM2.out⟩
                · simp only [List.length_cons, Nat.succ_mul] at q3; omega
                · refine q7.trans ?_
                  have h := (FEq.refl (keyI ls) Es.flatten).app (HSS.out.2.app (FEq.refl _ (Rs'.flatten ++ t)))
                  simpa using h
              case measure => simp [intOf]; omega
            · have hle : ¬ (a : Int) + 2 * (bs : Int) ≤ (n : Int) := by omega
              have hab : (a : Int) + (bs : Int) = ((a + bs : Nat) : Int) := by omega
              by_cases hm : a + bs < n
              · have hm' : (a : Int) + (bs : Int) < (n : Int) := by omega
                obtain ⟨s1, hRs⟩ : ∃ s1, Rs = [s1] := by
                  obtain ⟨q1, q2, q3, _⟩ := HF.out
                  match Rs, q3 with
                  | [], q3 => simp at q3; omega
                  | [s], q3 => exact ⟨s, rfl⟩
                  | s1 :: s2 :: Rs', q3 => simp only [List.length_cons, Nat.succ_mul] at q3; omega
                subst hRs
                have hs12 : s1.length = bs ∧ 0 < t.length ∧ a + bs + t.length = n := by
                  obtain ⟨q1, q2, q3, _⟩ := HF.out
                  simp at q3
                  exact ⟨(HF.out.2.2.2.2.1 s1 (by simp)).1, by omega, by omega⟩
                have HS12 := Lib.hid hs12
                have HAB := Lib.hid hab
                clear hs12 hab
                go_wp2_with fail
                rw [HAB.out]
                refine (symMergeI (s1.length + t.length) base b n cap B A nl cl ls Es.flatten s1 t [] wr _ _ _ (Nat.le_refl _) HF.out.1.symm (by rw [HF.out.1, HS12.out.1]) (by rw [HF.out.1, HS12.out.1]; have := HS12.out; omega) (by have := HS12.out; omega) (by have := HS12.out; omega) hn hB HA.out (HCM.out _ HM.out) (fun x hx => HG.out x ((HF.out.2.2.2.2.2.2.mem x).2 (by simp at hx ⊢; rcases hx with h | h <;> simp [h]))) (HF.out.2.2.2.2.1 s1 (by simp)).2 HF.out.2.2.2.2.2.1 (by have h := HRW.out; simpa using h)).mono ?_
                rw [← HAB.out]
                rintro e w2 ⟨rfl, ⟨s', hs1, hs2, hR⟩, hM⟩
                have HSS := Lib.hid (And.intro hs1 hs2); have HR2 := Lib.hid hR; have HM2 := Lib.hid hM
                clear hs1 hs2 hR hM
                go_wp2_with fail
                go_roundw
                case rel =>
                  obtain ⟨q1, q2, q3, q4, q5, q6, q7⟩ := HF.out
                  have hsl := HSS.out.2.length
                  have h12 := HS12.out
                  rw [List.length_append] at hsl
                  refine ⟨2 * bs, by go_num, by omega, by omega, Es, s', by omega, by rw [List.length_append]; omega, q4, HSS.out.1, ?_, by simpa using HR2.out, HM.out.trans HM2.out⟩
                  refine q7.trans ?_
                  have h := (FEq.refl (keyI ls) Es.flatten).app HSS.out.2
                  simpa using h
                case measure => simp [intOf]; omega
              · have hm' : ¬ (a : Int) + (bs : Int) < (n : Int) := by omega
                have hfin : ∃ t', t'.length < 2 * bs ∧ (Es.flatten ++ t').length = n ∧ Sorted (keyI ls) t' ∧ Rs.flatten ++ t = t' := by
                  obtain ⟨q1, q2, q3, q4, q5, q6, q7⟩ := HF.out
                  match Rs, q3, q5 with
                  | [], q3, _ => exact ⟨t, by omega, by rw [List.length_append]; simp at q3; omega, q6, by simp⟩
                  | [s], q3, q5 =>
                    have ht : t = [] := List.eq_nil_of_length_eq_zero (by simp at q3; omega)
                    have hs := q5 s (by simp)
                    rw [ht] at q3 ⊢
                    exact ⟨s, by omega, by rw [List.length_append]; simp at q3; omega, hs.2, by simp⟩
                  | s1 :: s2 :: Rs', q3, _ => simp only [List.length_cons, Nat.succ_mul] at q3; omega
                have HFIN := Lib.hid hfin
                clear hfin hab
                go_wp2_with fail
                go_roundw
                case rel =>
                  obtain ⟨q1, q2, q3, q4, q5, q6, q7⟩ := HF.out
                  obtain ⟨t', p1, p2, p3, p4⟩ := HFIN.out
                  rw [List.append_assoc, p4] at q7
                  have hr := HRW.out
                  rw [List.append_assoc, p4] at hr
                  exact ⟨2 * bs, by go_num, by omega, by omega, Es, t', p1, p2, q4, p3, q7, hr, HM.out⟩
                case measure => simp [intOf]; omega
        · have hle : ¬ (bs : Int) < (n : Int) := by omega
          go_wp2_with fail
          go_end0
          obtain ⟨Rs, t, q1, q2, q3, q4, q5, q6, q7⟩ := HS.out
          exact ⟨rfl, ⟨_, Full.done q3 q4 q1 q2 (by omega), q5, q6⟩, q7⟩

set_option maxHeartbeats 400000 in
theorem sortStableI (base b n cap B : Nat) (A : Option Addr) (nl cl : Nat) (ls xs : List Int) (w : World) (hn : n ≤ 140737488351232)
    (hB : B ≠ b) (hA : ∀ ad, A = some ad → ad.block ≠ b) (hc : CmpI w B A nl cl ls) (hg : ∀ x ∈ xs, GoodI ls x) (H : RowI w base b n cap xs) :
    Calls Try.prog 32 #[.slice (some ⟨b, 0, none⟩) n cap, cmpI B] w
      fun e w' => e = .returned (.tuple #[]) ∧ (∃ s', Sorted (keyI ls) s' ∧ FEq (keyI ls) xs s' ∧ RowI w' base b n cap s') ∧ Mods [b] w w' := by
  have h := Lib.hid (stableI base b n cap B A nl cl ls xs w hn hB hA hc hg H)
  clear hA hc hg H
  go_enter Try.func32, Try.ntmps32
  go_wp2_with fail
  refine h.out.mono ?_
  rintro e w2 ⟨rfl, hs, hM⟩
  have HS := Lib.hid hs; have HM := Lib.hid hM
  clear hs hM
  go_wp2_with fail
  go_end0
  exact ⟨rfl, HS.out, HM.out⟩
end Go.Proofs.Ytbljoihnjhllhaa
