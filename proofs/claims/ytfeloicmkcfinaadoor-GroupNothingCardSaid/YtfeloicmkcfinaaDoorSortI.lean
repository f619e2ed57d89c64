/- What the library's stable sort does with symbols by their lengths (code.Order's comparison). -/
import Derived.Test.YtfeloicmkcfinaaDoorTypes
import Derived.Test.YtfeloicmkcfinaaDoorSortP
namespace Go.Proofs.YtfeloicmkcfinaaDoor
open Go.RowKit
open Go.Proofs.YtfeloicmkcfinaaDoorW.PrintWords
open Srt

/-- What code.Order's comparison leans on: block B holds the lengths' slice; a symbol is good if it is one of them and has a length. -/
structure CmpI (w : World) (B : Nat) (A : Option Addr) (n c : Nat) (ls : List Int) : Prop where
  box : w.cell? ⟨B, 0, none⟩ = some (.slice A n c)
  reads : ReadsInt w .i64 A n ls
def GoodI (ls : List Int) (x : Int) : Prop := 0 ≤ x ∧ x < ls.length ∧ 1 ≤ rd ls x ∧ rd ls x ≤ 9223372036854775807
theorem CmpI.mods {S : List Nat} {w w' : World} {B : Nat} {A : Option Addr} {n c : Nat} {ls : List Int} (h : CmpI w B A n c ls) (hm : Mods S w w') (hB : B ∉ S) (hA : ∀ ad, A = some ad → ad.block ∉ S) : CmpI w' B A n c ls :=
  ⟨(World.cell?_of_block (w := w) (hm.block B (World.block_lt_of_cell? w _ h.box) hB)).trans h.box, ReadsInt.mods h.reads hm hA⟩

set_option maxHeartbeats 400000 in
theorem order1 (B : Nat) (A : Option Addr) (n c : Nat) (ls : List Int) (x y : Int) (w : World) (h : CmpI w B A n c ls) (hx : GoodI ls x) (hy : GoodI ls y) :
    Calls Tryd.prog 40 #[.int .i64 x, .int .i64 y, .pointer (some ⟨B, 0, none⟩)] w fun e w' => e = .returned (.int .i64 (rd ls x - rd ls y)) ∧ ∃ m, w' = w.drewN m := by
  obtain ⟨hb, hr⟩ := h
  have hl := hr.1
  obtain ⟨hx0, hx1, hx2, hx3⟩ := hx
  obtain ⟨hy0, hy1, hy2, hy3⟩ := hy
  have hxn : x < (n : Int) := by omega
  have hyn : y < (n : Int) := by omega
  obtain ⟨ad, rfl, hcx⟩ := hr.at_ x hx0 hxn
  obtain ⟨ad', h', hcy⟩ := hr.at_ y hy0 hyn
  injection h' with h'
  subst h'
  clear hr hl
  generalize rd ls x = kx at *
  generalize rd ls y = ky at *
  go_enter Tryd.func40, Tryd.ntmps40
  go_wp2
  go_quiet (fail)
  go_wp2
  go_ret
  exact ⟨rfl, _, rfl⟩

/-- The row that is sorted: block b, the call's own. -/
def RowI (w : World) (base b n cap : Nat) (xs : List Int) : Prop := w.ownsRow base 3 1 (.slice (some ⟨b, 0, none⟩) n cap) n (nums .i64 xs)

theorem RowI.length {w : World} {base b n cap : Nat} {xs : List Int} (H : RowI w base b n cap xs) : xs.length = n := by have := H.1; simpa [nums] using this
theorem RowI.set {w : World} {base b n cap : Nat} {xs : List Int} (H : RowI w base b n cap xs) (i : Nat) (x : Int) : RowI (w.setCell ⟨b, i, none⟩ (.int .i64 x)) base b n cap (xs.set i x) := by
  have := (own_store H (i : Int) x).1
  rwa [Int.toNat_natCast] at this
theorem RowI.drew {w : World} {base b n cap : Nat} {xs : List Int} (H : RowI w base b n cap xs) : RowI w.drew base b n cap xs := World.ownsRow.drew H
theorem RowI.mods {S : List Nat} {w w' : World} {base b n cap : Nat} {xs : List Int} (H : RowI w base b n cap xs) (hm : Mods S w w') (hb : b ∉ S) : RowI w' base b n cap xs := by
  refine ⟨H.1, ?_⟩
  rcases H.2 with ⟨h', _⟩ | ⟨g, c, cur, h', h1, h2, h3⟩
  · cases h'
  · injection h' with h4 h5 h6
    injection h4 with h4
    injection h4 with h4
    subst h4 h6
    exact .inr ⟨b, cap, cur, rfl, h1, hm.blk h2 hb, h3⟩
theorem RowI.drewN {w : World} {base b n cap : Nat} {xs : List Int} (H : RowI w base b n cap xs) (m : Nat) : RowI (w.drewN m) base b n cap xs := H.mods ((Mods.refl [] _).drewN m) (by simp)
theorem rd_of {xs : List Int} {i : Nat} {x : Int} (h : xs[i]? = some x) : rd xs (i : Int) = x := by
  unfold rd; rw [Int.toNat_natCast, List.getD_eq_getElem?_getD, h]; rfl

set_option maxHeartbeats 1000000 in
theorem swapRangeI (base b n cap : Nat) (fv : Value) (p u q v r : List Int) (w : World) (hn : n ≤ 140737488351232) (huv : u.length = v.length) (H : RowI w base b n cap (p ++ u ++ q ++ v ++ r)) :
    Calls Tryd.prog 73 #[.slice (some ⟨b, 0, none⟩) n cap, .int .i64 p.length, .int .i64 (p.length + u.length + q.length : Nat), .int .i64 u.length, fv] w
      fun e w' => e = .returned (.tuple #[]) ∧ RowI w' base b n cap (p ++ v ++ q ++ u ++ r) ∧ Mods [b] w w' := by
  have hlen : (p ++ u ++ q ++ v ++ r).length = n := by have := H.1; simpa [nums] using this
  simp only [List.length_append] at hlen
  have HR := Lib.hid H; have HUV := Lib.hid huv
  have hb1 : p.length + u.length + q.length + u.length ≤ n := by omega
  have HL := Lib.hid hlen
  clear H huv hlen
  generalize hpl : p.length = P at *
  generalize hul : u.length = U at *
  generalize hql : q.length = Q at *
  have HPL := Lib.hid hpl; have HUL := Lib.hid hul; have HQL := Lib.hid hql
  clear hpl hul hql
  go_enter Tryd.func73, Tryd.ntmps73
  go_wp2
  go_loopw [10] (fun i wr => ∃ k : Nat, k ≤ U ∧ i = .int .i64 k ∧ RowI wr base b n cap (p ++ (v.take k ++ u.drop k) ++ q ++ (u.take k ++ v.drop k) ++ r) ∧ Mods [b] w wr) (fun i _ => U - (intOf i).toNat)
  case atStart => exact ⟨0, by omega, rfl, by simpa using HR.out, Mods.refl _ _⟩
  case round =>
    obtain ⟨k, hk, rfl, hR, hM⟩ := hrel
    have HRR := Lib.hid hR; have HM := Lib.hid hM
    clear hR hM
    by_cases hlt : k < U
    · obtain ⟨x, y, hx, hy, hstep⟩ := range_step p u q v r k (P + k) (P + U + Q + k) (by rw [HUL.out]; exact hlt) (by rw [HUL.out, HUV.out]) (by rw [HPL.out]) (by rw [HPL.out, HUL.out, HQL.out])
      obtain ⟨hc1, hf1⟩ := own_at HRR.out ((P + k : Nat) : Int) (by omega) (by omega)
      obtain ⟨hc2, hf2⟩ := own_at HRR.out ((P + U + Q + k : Nat) : Int) (by omega) (by omega)
      rw [Int.toNat_natCast] at hc1 hc2 hf1 hf2
      rw [rd_of hx] at hc1
      rw [rd_of hy] at hc2
      have HS := Lib.hid hstep
      clear hx hy hstep
      go_wp2
      go_region
      go_wp2
      go_roundw
      case rel =>
        refine ⟨k + 1, by omega, by go_num, ?_, ((HM.out.setCell (by simp) _).setCell (by simp) _).drew⟩
        have h := ((HRR.out.set (P + k) y).set (P + U + Q + k) x).drew
        rw [HS.out] at h
        exact h
      case measure => simp [intOf]; omega
    · have hkU : k = U := by omega
      have h := HRR.out
      rw [hkU, List.take_of_length_le (by rw [← HUV.out]; exact Nat.le_refl _), List.drop_of_length_le (by rw [HUL.out]; exact Nat.le_refl _), List.take_of_length_le (by rw [HUL.out]; exact Nat.le_refl _), List.drop_of_length_le (by rw [← HUV.out]; exact Nat.le_refl _), List.append_nil, List.append_nil] at h
      have HF := Lib.hid h
      clear h hkU
      go_wp2
      go_end0
      exact ⟨rfl, HF.out, HM.out⟩

theorem swapRangeI' (base b n cap : Nat) (fv : Value) (p u q v r : List Int) (w : World) (i j k : Int) (hi : i = p.length) (hj : j = p.length + u.length + q.length) (hk : k = u.length) (hn : n ≤ 140737488351232) (huv : u.length = v.length) (H : RowI w base b n cap (p ++ u ++ q ++ v ++ r)) :
    Calls Tryd.prog 73 #[.slice (some ⟨b, 0, none⟩) n cap, .int .i64 i, .int .i64 j, .int .i64 k, fv] w
      fun e w' => e = .returned (.tuple #[]) ∧ RowI w' base b n cap (p ++ v ++ q ++ u ++ r) ∧ Mods [b] w w' := by
  have h := swapRangeI base b n cap fv p u q v r w hn huv H
  have e : ((p.length + u.length + q.length : Nat) : Int) = (p.length : Int) + u.length + q.length := by omega
  rw [e] at h
  rw [hi, hj, hk]; exact h

set_option maxHeartbeats 1000000 in
theorem rotateI (base b n cap : Nat) (fv : Value) (p u v r : List Int) (w : World) (i j k : Int) (hi : i = p.length) (hj : j = p.length + u.length) (hk : k = p.length + u.length + v.length) (hn : n ≤ 140737488351232) (hu : 0 < u.length) (hv : 0 < v.length) (H : RowI w base b n cap (p ++ u ++ v ++ r)) :
    Calls Tryd.prog 65 #[.slice (some ⟨b, 0, none⟩) n cap, .int .i64 i, .int .i64 j, .int .i64 k, fv] w
      fun e w' => e = .returned (.tuple #[]) ∧ RowI w' base b n cap (p ++ v ++ u ++ r) ∧ Mods [b] w w' := by
  have hlen := H.length
  simp only [List.length_append] at hlen
  have HR := Lib.hid H
  clear H
  have hb0 : 0 ≤ i ∧ i < j ∧ j < k ∧ k ≤ n := by omega
  obtain ⟨h0, h1, h2, h3⟩ := hb0
  have HI := Lib.hid hi; have HJ := Lib.hid hj; have HK := Lib.hid hk; have HL := Lib.hid hlen
  have e1 : j - i = (u.length : Int) := by omega
  have e2 : k - j = (v.length : Int) := by omega
  have E1 := Lib.hid e1; have E2 := Lib.hid e2
  clear hi hj hk hlen e1 e2
  go_enter Tryd.func65, Tryd.ntmps65
  go_wp2
  go_loopw [10, 11] (fun x y wr => ∃ P U V R : List Int, 0 < U.length ∧ 0 < V.length ∧ x = .int .i64 U.length ∧ y = .int .i64 V.length ∧ Hid (j = P.length + U.length) ∧ j + V.length ≤ k ∧ (U.length : Int) ≤ j ∧ RowI wr base b n cap (P ++ U ++ V ++ R) ∧ Hid (P ++ V ++ U ++ R = p ++ v ++ u ++ r) ∧ Mods [b] w wr) (fun x y _ => ((intOf x) + (intOf y)).toNat)
  case atStart => exact ⟨p, u, v, r, hu, hv, by rw [E1.out], by rw [E2.out], HJ.out, by have := E2.out; omega, by have := E1.out; omega, HR.out, rfl, Mods.refl _ _⟩
  case round =>
    obtain ⟨P, U, V, R, hU, hV, rfl, rfl, HP, hkk, hUj, hR, HE, hM⟩ := hrel
    have HRR := Lib.hid hR; have HM := Lib.hid hM
    clear hR hM
    rcases Nat.lt_trichotomy U.length V.length with hlt | heq | hgt
    · have hne : ((U.length : Int) != (V.length : Int)) = true := by simp; omega
      obtain ⟨V1, V2, hV12, hV1, hV2⟩ : ∃ V1 V2, V = V1 ++ V2 ∧ V2.length = U.length ∧ V1.length = V.length - U.length := ⟨V.take (V.length - U.length), V.drop (V.length - U.length), by simp, by simp; omega, by simp⟩
      have hR2 := HRR.out
      rw [hV12] at hR2
      have HR2 := Lib.hid (show RowI wr base b n cap (P ++ U ++ V1 ++ V2 ++ R) from by simpa only [List.append_assoc] using hR2)
      have HV12 := Lib.hid hV12; have HV1 := Lib.hid hV1; have HV2 := Lib.hid hV2
      clear hR2 hV12 hV1 hV2
      go_wp2_with fail
      refine (swapRangeI' base b n cap fv P U V1 V2 R wr _ _ _ (by have := HP.out; omega) (by have := HP.out; have := HV1.out; have := HV2.out; omega) rfl hn HV1.out.symm HR2.out).mono ?_
      rintro e w' ⟨rfl, hR3, hM3⟩
      have HR3 := Lib.hid hR3; have HM3 := Lib.hid hM3
      clear hR3 hM3
      go_wp2_with fail
      go_roundw
      case rel =>
        have hv2 := HV2.out; have hv1 := HV1.out
        refine ⟨P, V2, V1, U ++ R, by omega, by omega, by rw [hv1], by rw [hv2]; congr 1; omega, ?_, by omega, by omega, by simpa only [List.append_assoc] using HR3.out, ?_, HM.out.trans HM3.out⟩
        · have := HP.out; show j = _; omega
        · rw [← HE.out, HV12.out]; show _ = _; simp only [List.append_assoc]
      case measure => simp [intOf]; omega
    · have hne : ((U.length : Int) != (V.length : Int)) = false := by simp; omega
      have HEQ := Lib.hid heq; clear heq
      have HR2 := Lib.hid (show RowI wr base b n cap (P ++ U ++ [] ++ V ++ R) from by simpa only [List.append_nil] using HRR.out)
      go_wp2_with fail
      refine (swapRangeI' base b n cap fv P U [] V R wr _ _ _ (by have := HP.out; omega) (by have := HP.out; simp; omega) rfl hn HEQ.out HR2.out).mono ?_
      rintro e w' ⟨rfl, hR3, hM3⟩
      have hR4 : RowI w' base b n cap (p ++ v ++ u ++ r) := by rw [← HE.out]; simpa only [List.append_nil] using hR3
      have HR4 := Lib.hid hR4; have HM3 := Lib.hid hM3
      clear hR3 hM3 hR4
      go_wp2_with fail
      go_end0
      exact ⟨rfl, HR4.out, HM.out.trans HM3.out⟩
    · have hne : ((U.length : Int) != (V.length : Int)) = true := by simp; omega
      obtain ⟨U1, U2, hU12, hU1, hU2⟩ : ∃ U1 U2, U = U1 ++ U2 ∧ U1.length = V.length ∧ U2.length = U.length - V.length := ⟨U.take V.length, U.drop V.length, by simp, by simp; omega, by simp⟩
      have hR2 := HRR.out
      rw [hU12] at hR2
      have HR2 := Lib.hid (show RowI wr base b n cap (P ++ U1 ++ U2 ++ V ++ R) from by simpa only [List.append_assoc] using hR2)
      have HU12 := Lib.hid hU12; have HU1 := Lib.hid hU1; have HU2 := Lib.hid hU2
      clear hR2 hU12 hU1 hU2
      go_wp2_with fail
      refine (swapRangeI' base b n cap fv P U1 U2 V R wr _ _ _ (by have := HP.out; omega) (by have := HP.out; have := HU1.out; have := HU2.out; omega) (by have := HU1.out; omega) hn HU1.out HR2.out).mono ?_
      rintro e w' ⟨rfl, hR3, hM3⟩
      have HR3 := Lib.hid hR3; have HM3 := Lib.hid hM3
      clear hR3 hM3
      go_wp2_with fail
      go_roundw
      case rel =>
        have hu2 := HU2.out; have hu1 := HU1.out
        refine ⟨P ++ V, U2, U1, R, by omega, by omega, by rw [hu2]; congr 1; omega, by rw [hu1], ?_, by omega, by omega, by simpa only [List.append_assoc] using HR3.out, ?_, HM.out.trans HM3.out⟩
        · have := HP.out; show j = _; rw [List.length_append]; omega
        · rw [← HE.out, HU12.out]; show _ = _; simp only [List.append_assoc]
      case measure => simp [intOf]; omega

abbrev cmpI (B : Nat) : Value := .func (.func 40) #[] #[.pointer (some ⟨B, 0, none⟩)]
def keyI (ls : List Int) (x : Int) : Int := rd ls x

set_option maxHeartbeats 2000000 in
theorem insertionI (base b n cap B : Nat) (A : Option Addr) (nl cl : Nat) (ls p s r : List Int) (w : World) (i j : Int) (hi : i = p.length) (hj : j = p.length + s.length) (hn : n ≤ 140737488351232)
    (hB : B ≠ b) (hA : ∀ ad, A = some ad → ad.block ≠ b) (hc : CmpI w B A nl cl ls) (hg : ∀ x ∈ s, GoodI ls x) (H : RowI w base b n cap (p ++ s ++ r)) :
    Calls Tryd.prog 58 #[.slice (some ⟨b, 0, none⟩) n cap, .int .i64 i, .int .i64 j, cmpI B] w
      fun e w' => e = .returned (.tuple #[]) ∧ (∃ s', Sorted (keyI ls) s' ∧ FEq (keyI ls) s s' ∧ RowI w' base b n cap (p ++ s' ++ r)) ∧ Mods [b] w w' := by
  have hlen := H.length
  simp only [List.length_append] at hlen
  have HR := Lib.hid H; have HC := Lib.hid hc; have HG := Lib.hid hg; have HA := Lib.hid hA
  have hb0 : 0 ≤ i ∧ i ≤ j ∧ j ≤ n := by omega
  obtain ⟨h0, h1, h2⟩ := hb0
  have HI := Lib.hid hi; have HJ := Lib.hid hj; have HL := Lib.hid hlen
  have HS : Hid (j - i = (s.length : Int)) := Lib.hid (show j - i = (s.length : Int) from by omega)
  clear H hc hg hA hi hj hlen
  have cm : Hid (∀ wr, Mods [b] w wr → ∀ m, CmpI (wr.drewN m) B A nl cl ls) := Lib.hid (show ∀ wr, Mods [b] w wr → ∀ m, CmpI (wr.drewN m) B A nl cl ls from fun wr hm m => HC.out.mods (hm.drewN m) (by simpa using hB) (fun ad h => by simpa using HA.out ad h))
  by_cases hs1 : j ≤ i + 1
  · have hsl : Sorted (keyI ls) s := by
      have := HS.out
      match s, this with
      | [], _ => exact sorted_nil _
      | [x], _ => exact sorted_one _ x
      | x :: y :: t, h => simp at h; omega
    have HSL := Lib.hid hsl; clear hsl
    go_enter Tryd.func58, Tryd.ntmps58
    go_wp2
    go_loopw [8, 9] (fun x y wr => x = .int .i64 (i + 1) ∧ wr = w) (fun x y _ => 0)
    case atStart => exact ⟨rfl, rfl⟩
    case round =>
      obtain ⟨rfl, rfl⟩ := hrel
      go_wp2
      go_end0
      exact ⟨rfl, ⟨s, HSL.out, FEq.refl _ _, HR.out⟩, Mods.refl _ _⟩
  · obtain ⟨a, rfl⟩ := Int.eq_ofNat_of_zero_le h0
    go_enter Tryd.func58, Tryd.ntmps58
    go_wp2
    go_loopw [8, 9] (fun x y wr => ∃ (S T : List Int) (m : Nat), x = .int .i64 ((a : Int) + m) ∧ Hid (S.length = m) ∧ 0 < m ∧ (a : Int) + m ≤ j ∧ Hid ((a : Int) + m + T.length = j) ∧ Hid (Sorted (keyI ls) S ∧ FEq (keyI ls) s (S ++ T)) ∧ Hid (RowI wr base b n cap (p ++ S ++ T ++ r)) ∧ Hid (Mods [b] w wr)) (fun x _ _ => (j - intOf x).toNat)
    case atStart =>
      have h := HS.out
      have hr := HR.out
      match s, h, hr with
      | [], h, _ => simp at h; omega
      | x :: t, h, hr =>
        simp at h
        exact ⟨[x], t, 1, by simp, rfl, by omega, by omega, by show _ = j; omega, ⟨sorted_one _ x, FEq.refl _ _⟩, by show RowI _ _ _ _ _ _; simpa using hr, Mods.refl _ _⟩
    case round =>
      obtain ⟨S, T, m, rfl, HSm, hm0, hmj, HST, HSF, HR1, HM⟩ := hrel
      by_cases hlt : (a : Int) + m < j
      · obtain ⟨z, T', hT'⟩ : ∃ z T', T = z :: T' := by
          have h := HST.out
          cases T with
          | nil => simp at h; omega
          | cons z T' => exact ⟨z, T', rfl⟩
        subst hT'
        obtain ⟨wo, hwo⟩ : ∃ wo : World, wo = wr := ⟨_, rfl⟩
        subst hwo
        go_wp2
        go_loopw [9] (fun y wr => ∃ (L R : List Int) (l : Nat), y = .int .i64 ((a : Int) + l) ∧ Hid (L.length = l) ∧ Hid (L.length + R.length = m) ∧ l ≤ m ∧ Hid (Sorted (keyI ls) (L ++ R) ∧ (∀ y ∈ R, keyI ls z < keyI ls y) ∧ FEq (keyI ls) s (L ++ z :: R ++ T')) ∧ Hid (RowI wr base b n cap (p ++ L ++ z :: R ++ T' ++ r)) ∧ Hid (Mods [b] w wr)) (fun y _ => (intOf y).toNat)
        case atStart => exact ⟨S, [], m, rfl, HSm.out, by simpa [Hid] using HSm.out, Nat.le_refl _, ⟨by simpa using HSF.out.1, by simp, by simpa using HSF.out.2⟩, by simpa [Hid] using HR1.out, HM.out⟩
        case round =>
          obtain ⟨L, R, l, rfl, HLl, HLR, hLS, HF, HR2, HM2⟩ := hrel
          have hout : Hid (∀ w', RowI w' base b n cap (p ++ L ++ z :: R ++ T' ++ r) → Sorted (keyI ls) (L ++ z :: R) → (L ++ z :: R).length = m + 1 ∧ Sorted (keyI ls) (L ++ z :: R) ∧ FEq (keyI ls) s ((L ++ z :: R) ++ T') ∧ RowI w' base b n cap (p ++ (L ++ z :: R) ++ T' ++ r)) :=
            Lib.hid (show ∀ w', RowI w' base b n cap (p ++ L ++ z :: R ++ T' ++ r) → Sorted (keyI ls) (L ++ z :: R) → (L ++ z :: R).length = m + 1 ∧ Sorted (keyI ls) (L ++ z :: R) ∧ FEq (keyI ls) s ((L ++ z :: R) ++ T') ∧ RowI w' base b n cap (p ++ (L ++ z :: R) ++ T' ++ r) from
              fun w' h hs => ⟨by have := HLR.out; simp; omega, hs, by simpa using HF.out.2.2, by simpa using h⟩)
          by_cases hl : l = 0
          · have hL : L = [] := by have := HLl.out; rw [hl] at this; exact List.eq_nil_of_length_eq_zero this
            have hdec : decide ((a : Int) < (a : Int) + (l : Int)) = false := by simp; omega
            have hfin := hout.out
            rw [hL] at hfin
            have hs0 : Sorted (keyI ls) ([] ++ z :: R) := insert_done (by have := HF.out.1; rwa [hL] at this) HF.out.2.1 (by simp)
            have hr0 := HR2.out
            rw [hL] at hr0
            have HS0 := Lib.hid hs0; have HFIN := Lib.hid hfin; have HR0 := Lib.hid hr0
            clear hL hs0 hfin hr0 hl
            go_wp2
            go_quiet (fail)
            go_wp2
            go_roundw
            case rel =>
              obtain ⟨q1, q2, q3, q4⟩ := HFIN.out _ (HR0.out.drewN _) HS0.out
              refine ⟨_, T', m + 1, by go_num, q1, by omega, by omega, ?_, ⟨q2, q3⟩, q4, HM2.out.drewN _⟩
              have := HST.out; simp at this; show _ = j; simp; omega
            case measure => simp [intOf]; omega
          · obtain ⟨l', rfl⟩ : ∃ l', l = l' + 1 := ⟨l - 1, by omega⟩
            obtain ⟨L', y, hL'⟩ : ∃ L' y, L = L' ++ [y] := by
              have := HLl.out
              rcases List.eq_nil_or_concat L with e | ⟨L', y, e⟩
              · rw [e] at this; simp at this
              · exact ⟨L', y, by simpa using e⟩
            have hL'l : L'.length = l' := by have := HLl.out; rw [hL'] at this; simpa using this
            have hpl : p.length = a := by have := HI.out; omega
            have hr := HR2.out
            rw [hL'] at hr
            have hfit : a + l' + 1 < n := by
              have h1 := hr.length
              simp at h1; omega
            obtain ⟨hc1, hf1⟩ := own_at hr ((a + l' + 1 : Nat) : Int) (by omega) (by omega)
            obtain ⟨hc2, hf2⟩ := own_at hr ((a + l' : Nat) : Int) (by omega) (by omega)
            rw [Int.toNat_natCast] at hc1 hc2 hf1 hf2
            have ez : (p ++ (L' ++ [y]) ++ z :: R ++ T' ++ r)[a + l' + 1]? = some z := by
              have e : p ++ (L' ++ [y]) ++ z :: R ++ T' ++ r = (p ++ L' ++ [y]) ++ z :: (R ++ T' ++ r) := by simp
              rw [e]; exact get_mid _ _ _ _ (by simp; omega)
            have ey : (p ++ (L' ++ [y]) ++ z :: R ++ T' ++ r)[a + l']? = some y := by
              have e : p ++ (L' ++ [y]) ++ z :: R ++ T' ++ r = (p ++ L') ++ y :: (z :: R ++ T' ++ r) := by simp
              rw [e]; exact get_mid _ _ _ _ (by simp; omega)
            rw [rd_of ez] at hc1
            rw [rd_of ey] at hc2
            have hgz : GoodI ls z := HG.out z ((HF.out.2.2.mem z).2 (by simp))
            have hgy : GoodI ls y := HG.out y ((HF.out.2.2.mem y).2 (by simp [hL']))
            have hord := fun q => order1 B A nl cl ls z y (wr.drewN q) (cm.out wr HM2.out q) hgz hgy
            have HORD := Lib.hid hord; have HR3 := Lib.hid hr; have HL' := Lib.hid hL'; have HPL := Lib.hid hpl; have HLL := Lib.hid hL'l
            have kz : 1 ≤ rd ls z ∧ rd ls z ≤ 9223372036854775807 := hgz.2.2
            have ky : 1 ≤ rd ls y ∧ rd ls y ≤ 9223372036854775807 := hgy.2.2
            clear hr ez ey hgz hgy hord hL' hpl hL'l
            generalize hkz : rd ls z = kz0 at *
            generalize hky : rd ls y = ky0 at *
            have HKZ := Lib.hid hkz; have HKY := Lib.hid hky
            clear hkz hky
            have hdec : decide ((a : Int) < (a : Int) + ((l' : Int) + 1)) = true := by simp; omega
            have hw : IntKind.i64.wrap ((a : Int) + ((l' : Int) + 1) - 1) = (a : Int) + (l' : Int) := by rw [IntWalk.i64_in _ (by omega)]; omega
            have hi1 : (a : Int) + ((l' : Int) + 1) < (n : Int) := by omega
            have hi2 : (a : Int) + (l' : Int) < (n : Int) := by omega
            have hi3 : (0 : Int) ≤ (a : Int) + ((l' : Int) + 1) := by omega
            have hi4 : (0 : Int) ≤ (a : Int) + (l' : Int) := by omega
            have ht1 : ((a : Int) + ((l' : Int) + 1)).toNat = a + (l' + 1) := by omega
            have ht2 : ((a : Int) + (l' : Int)).toNat = a + l' := by omega
            rw [Nat.add_assoc] at hc1 hf1
            by_cases hk : kz0 < ky0
            · have hd : kz0 - ky0 < 0 := by omega
              go_wp2
              go_quiet ((go_at_call 40; exact Calls.quiet_of (HORD.out _)))
              go_wp2
              go_region
              go_wp2
              go_roundw
              case rel =>
                have hlz : keyI ls z < keyI ls y := by unfold keyI; rw [HKZ.out, HKY.out]; exact hk
                have hF := HF.out
                rw [HL'.out] at hF
                refine ⟨L', y :: R, l', rfl, HLL.out, ?_, by omega, ⟨sorted_mid hF.1, ?_, ?_⟩, ?_, ((HM2.out.drewN _).setCell (by simp) _).setCell (by simp) _⟩
                · have h1 := HLR.out
                  rw [HL'.out] at h1
                  show _ = _
                  simp at h1 ⊢; omega
                · intro q hq
                  rcases List.mem_cons.1 hq with e | e
                  · rw [e]; exact hlz
                  · exact hF.2.1 q e
                · refine hF.2.2.trans ?_
                  have h := FEq.step (key := keyI ls) L' (R ++ T') z y hlz
                  simpa using h
                · have h := ((HR3.out.drewN (nq + 1)).set (a + (l' + 1)) y).set (a + l') z
                  have e1 : p ++ (L' ++ [y]) ++ z :: R ++ T' ++ r = (p ++ L') ++ y :: z :: (R ++ T' ++ r) := by simp
                  have hpl : (p ++ L').length = a + l' := by have := HPL.out; have := HLL.out; simp; omega
                  rw [e1, swap_adj (p ++ L') (R ++ T' ++ r) y z (a + l') (a + (l' + 1)) (by omega) (by omega)] at h
                  show RowI _ _ _ _ _ _
                  simpa using h
              case measure => simp [intOf]; omega
            · have hd : ¬ kz0 - ky0 < 0 := by omega
              have hdb : decide (kz0 - ky0 < 0) = false := by simp; omega
              have hfin : Sorted (keyI ls) (L ++ z :: R) := by
                refine insert_done HF.out.1 HF.out.2.1 ?_
                have h1 := HF.out.1
                rw [HL'.out] at h1 ⊢
                exact last_le (sorted_app.1 h1).1 (by unfold keyI; rw [HKZ.out, HKY.out]; omega)
              have HFIN := Lib.hid hfin; clear hfin
              go_wp2
              go_quiet ((go_at_call 40; exact Calls.quiet_of (HORD.out _)))
              go_wp2
              go_roundw
              case rel =>
                obtain ⟨q1, q2, q3, q4⟩ := hout.out _ (HR2.out.drewN _) HFIN.out
                refine ⟨_, T', m + 1, by go_num, q1, by omega, by omega, ?_, ⟨q2, q3⟩, q4, HM2.out.drewN _⟩
                have := HST.out; simp at this; show _ = j; simp; omega
              case measure => simp [intOf]; omega
      · go_wp2
        go_end0
        have hT : T = [] := by have h := HST.out; cases T with | nil => rfl | cons => simp at h; omega
        have hr := HR1.out
        have hf := HSF.out
        rw [hT] at hr hf
        exact ⟨rfl, ⟨S, hf.1, by simpa using hf.2, by simpa using hr⟩, HM.out⟩
end Go.Proofs.YtfeloicmkcfinaaDoor
