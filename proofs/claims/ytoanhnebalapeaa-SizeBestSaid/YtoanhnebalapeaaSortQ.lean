/- What the library's stable sort does with parcels (size.less). -/
import Derived.Test.YtoanhnebalapeaaTypes
import Derived.Test.YtoanhnebalapeaaSortP
import Derived.Deep.RegionHeld3
namespace Go.Proofs.Ytoanhnebalapeaa
open Go.RowKit
open Go.Proofs.YtoanhnebalapeaaW.PrintWords
open Srt

structure Parcel where
  sum : Int
  A : Option Addr
  n : Nat
  c : Nat
instance : Inhabited Parcel := ⟨⟨0, none, 0, 0⟩⟩
def Parcel.cells (p : Parcel) : List Value := [.int .i64 p.sum, .slice p.A p.n p.c]
def pcs (xs : List Parcel) : List Value := xs.flatMap Parcel.cells
theorem pcs_length (xs : List Parcel) : (pcs xs).length = xs.length * 2 := by
  induction xs with
  | nil => rfl
  | cons p xs ih =>
    have : pcs (p :: xs) = p.cells ++ pcs xs := rfl
    rw [this, List.length_append, ih, List.length_cons]
    show 2 + _ = _
    omega
theorem pcs_get (xs : List Parcel) (i : Nat) (p : Parcel) (h : xs[i]? = some p) : (pcs xs)[i * 2]? = some (.int .i64 p.sum) ∧ (pcs xs)[i * 2 + 1]? = some (.slice p.A p.n p.c) := by
  induction xs generalizing i with
  | nil => simp at h
  | cons q xs ih =>
    have e : pcs (q :: xs) = .int .i64 q.sum :: .slice q.A q.n q.c :: pcs xs := rfl
    rw [e]
    cases i with
    | zero => simp at h; subst h; exact ⟨rfl, rfl⟩
    | succ i =>
      simp at h
      have := ih i h
      rw [show (i + 1) * 2 = i * 2 + 1 + 1 from by omega]
      simpa using this
theorem pcs_set (xs : List Parcel) (i : Nat) (p : Parcel) (h : i < xs.length) : ((pcs xs).set (i * 2) (.int .i64 p.sum)).set (i * 2 + 1) (.slice p.A p.n p.c) = pcs (xs.set i p) := by
  induction xs generalizing i with
  | nil => simp at h
  | cons q xs ih =>
    have e : pcs (q :: xs) = .int .i64 q.sum :: .slice q.A q.n q.c :: pcs xs := rfl
    rw [e]
    cases i with
    | zero => rfl
    | succ i =>
      simp at h
      have := ih i h
      rw [show (i + 1) * 2 = i * 2 + 1 + 1 from by omega]
      simp only [List.set_cons_succ]
      rw [this]; rfl

def RowQ (w : World) (base b n cap : Nat) (xs : List Parcel) : Prop := w.ownsRow base 96 2 (.slice (some ⟨b, 0, none⟩) n cap) n (pcs xs)
theorem RowQ.length {w : World} {base b n cap : Nat} {xs : List Parcel} (H : RowQ w base b n cap xs) : xs.length = n := by have := H.1; rw [pcs_length] at this; omega
theorem RowQ.blk {w : World} {base b n cap : Nat} {xs : List Parcel} (H : RowQ w base b n cap xs) : ∃ cur, w.heap[b]? = some (.cells cur 96 (0, 0)) ∧ cur.size = cap * 2 ∧ cur.toList.take (n * 2) = pcs xs ∧ n ≤ cap := by
  rcases H.2 with ⟨h', _⟩ | ⟨g, c, cur, h', h1, h2, h3, h4, h5, h6⟩
  · cases h'
  · injection h' with h7 h8 h9
    injection h7 with h7
    injection h7 with h7
    subst h7 h9
    exact ⟨cur, h2, h5, h6, h3⟩
theorem RowQ.at {w : World} {base b n cap : Nat} {xs : List Parcel} (H : RowQ w base b n cap xs) (i : Nat) (p : Parcel) (h : xs[i]? = some p) :
    w.cell? ⟨b, i * 2, none⟩ = some (.int .i64 p.sum) ∧ w.cell? ⟨b, i * 2 + 1, none⟩ = some (.slice p.A p.n p.c) ∧ w.frozen? ⟨b, i * 2, none⟩ = false ∧ w.frozen? ⟨b, i * 2 + 1, none⟩ = false := by
  obtain ⟨cur, hb, hs, ht, hc⟩ := H.blk
  have hl := H.length
  have hi : i < xs.length := (List.getElem?_eq_some_iff.1 h).1
  obtain ⟨h1, h2⟩ := pcs_get xs i p h
  rw [← ht, List.getElem?_take_of_lt (by omega)] at h1
  rw [← ht, List.getElem?_take_of_lt (by omega)] at h2
  refine ⟨?_, ?_, free_blk hb _, free_blk hb _⟩
  · rw [cell_blk hb]; simpa using h1
  · rw [cell_blk hb]; simpa using h2
theorem RowQ.set {w : World} {base b n cap : Nat} {xs : List Parcel} (H : RowQ w base b n cap xs) (i : Nat) (p : Parcel) (hi : i < n) : RowQ ((w.setCell ⟨b, i * 2, none⟩ (.int .i64 p.sum)).setCell ⟨b, i * 2 + 1, none⟩ (.slice p.A p.n p.c)) base b n cap (xs.set i p) := by
  have h1 := (World.ownsRow.stored H (i * 2) (.int .i64 p.sum)).1
  have h2 := (World.ownsRow.stored h1 (i * 2 + 1) (.slice p.A p.n p.c)).1
  rw [pcs_set xs i p (by have := H.length; omega)] at h2
  exact h2
theorem RowQ.drew {w : World} {base b n cap : Nat} {xs : List Parcel} (H : RowQ w base b n cap xs) : RowQ w.drew base b n cap xs := World.ownsRow.drew H
theorem RowQ.mods {S : List Nat} {w w' : World} {base b n cap : Nat} {xs : List Parcel} (H : RowQ w base b n cap xs) (hm : Mods S w w') (hb : b ∉ S) : RowQ w' base b n cap xs := own_move H (fun k hk => by
  have e : b = k := by simpa [Value.ownBlock] using hk
  subst e
  exact hm.block b (own_lt H b rfl) hb)
theorem RowQ.drewN {w : World} {base b n cap : Nat} {xs : List Parcel} (H : RowQ w base b n cap xs) (m : Nat) : RowQ (w.drewN m) base b n cap xs := H.mods ((Mods.refl [] _).drewN m) (by simp)

def cmpS (x y : Int) : Int := if x < y then -1 else if y < x then 1 else 0
theorem cmpS_yes {x y : Int} (h : x < y) : decide (cmpS x y < 0) = true := by unfold cmpS; rw [if_pos h]; decide
theorem cmpS_no {x y : Int} (h : ¬ x < y) : decide (cmpS x y < 0) = false := by unfold cmpS; rw [if_neg h]; split <;> decide
theorem cmpS_bounds (x y : Int) : -1 ≤ cmpS x y ∧ cmpS x y ≤ 1 := by unfold cmpS; split <;> (try split) <;> omega
set_option maxHeartbeats 400000 in
theorem less1 (x y : Int) (u v : Value) (w : World) :
    Calls Try.prog 96 #[.agg #[.int .i64 x, u], .agg #[.int .i64 y, v]] w fun e w' => e = .returned (.int .i64 (cmpS x y)) ∧ w' = (w.alloc (.cells #[.int .i64 x, u] 96)).alloc (.cells #[.int .i64 y, v] 96) := by
  unfold cmpS
  by_cases h1 : x < y
  · rw [if_pos h1]
    go_enter Try.func96, Try.ntmps96
    go_wp2
    go_ret
    exact ⟨rfl, rfl⟩
  · rw [if_neg h1]
    by_cases h2 : y < x
    · rw [if_pos h2]
      go_enter Try.func96, Try.ntmps96
      go_wp2
      go_ret
      exact ⟨rfl, rfl⟩
    · rw [if_neg h2]
      go_enter Try.func96, Try.ntmps96
      go_wp2
      go_ret
      exact ⟨rfl, rfl⟩

set_option maxHeartbeats 1000000 in
theorem swapRangeQ (base b n cap : Nat) (fv : Value) (p u q v r : List Parcel) (w : World) (hn : n ≤ 70368744177664) (huv : u.length = v.length) (H : RowQ w base b n cap (p ++ u ++ q ++ v ++ r)) :
    Calls Try.prog 138 #[.slice (some ⟨b, 0, none⟩) n cap, .int .i64 p.length, .int .i64 (p.length + u.length + q.length : Nat), .int .i64 u.length, fv] w
      fun e w' => e = .returned (.tuple #[]) ∧ RowQ w' base b n cap (p ++ v ++ q ++ u ++ r) ∧ Mods [b] w w' := by
  have hlen := H.length
  simp only [List.length_append] at hlen
  have HR := Lib.hid H; have HUV := Lib.hid huv
  have hb1 : p.length + u.length + q.length + u.length ≤ n := by omega
  have HL := Lib.hid hlen
  clear H huv hlen
  generalize hpl : p.length = P at *
  generalize hul : u.length = U at *
  generalize hql : q.length = Q at *
  have HPL := Lib.hid hpl; have HUL := Lib.hid hul; have HQL := Lib.hid hql
  clear hpl hul hql
  go_enter Try.func138, Try.ntmps138
  go_wp2
  go_loopw [10] (fun i wr => ∃ k : Nat, k ≤ U ∧ i = .int .i64 k ∧ RowQ wr base b n cap (p ++ (v.take k ++ u.drop k) ++ q ++ (u.take k ++ v.drop k) ++ r) ∧ Mods [b] w wr) (fun i _ => U - (intOf i).toNat)
  case atStart => exact ⟨0, by omega, rfl, by simpa using HR.out, Mods.refl _ _⟩
  case round =>
    obtain ⟨k, hk, rfl, hR, hM⟩ := hrel
    have HRR := Lib.hid hR; have HM := Lib.hid hM
    clear hR hM
    by_cases hlt : k < U
    · obtain ⟨x, y, hx, hy, hstep⟩ := range_step p u q v r k (P + k) (P + U + Q + k) (by rw [HUL.out]; exact hlt) (by rw [HUL.out, HUV.out]) (by rw [HPL.out]) (by rw [HPL.out, HUL.out, HQL.out])
      obtain ⟨hc1, hc1', hf1, hf1'⟩ := HRR.out.at (P + k) x hx
      obtain ⟨hc2, hc2', hf2, hf2'⟩ := HRR.out.at (P + U + Q + k) y hy
      have HS := Lib.hid hstep
      clear hx hy hstep
      go_wp2
      go_region
      go_wp2
      go_roundw
      case rel =>
        refine ⟨k + 1, by omega, by go_num, ?_, ((((HM.out.setCell (by simp) _).setCell (by simp) _).setCell (by simp) _).setCell (by simp) _).drew⟩
        have h := ((HRR.out.set (P + k) y (by omega)).set (P + U + Q + k) x (by omega)).drew
        rw [HS.out] at h
        exact h
      case measure => simp [intOf]; omega
    · have hkU : k = U := by omega
      have h := HRR.out
      rw [hkU, List.take_of_length_le (by rw [← HUV.out]; exact Nat.le_refl _), List.drop_of_length_le (by rw [HUL.out]; exact Nat.le_refl _), List.take_of_length_le (by rw [HUL.out]; exact Nat.le_refl _), List.drop_of_length_le (by rw [← HUV.out]; exact Nat.le_refl _), List.append_nil, List.append_nil] at h
      have HF := Lib.hid h
      clear h hkU
      go_wp2
      go_end0
      exact ⟨rfl, HF.out, HM.out⟩

theorem swapRangeQ' (base b n cap : Nat) (fv : Value) (p u q v r : List Parcel) (w : World) (i j k : Int) (hi : i = p.length) (hj : j = p.length + u.length + q.length) (hk : k = u.length) (hn : n ≤ 70368744177664) (huv : u.length = v.length) (H : RowQ w base b n cap (p ++ u ++ q ++ v ++ r)) :
    Calls Try.prog 138 #[.slice (some ⟨b, 0, none⟩) n cap, .int .i64 i, .int .i64 j, .int .i64 k, fv] w
      fun e w' => e = .returned (.tuple #[]) ∧ RowQ w' base b n cap (p ++ v ++ q ++ u ++ r) ∧ Mods [b] w w' := by
  have h := swapRangeQ base b n cap fv p u q v r w hn huv H
  have e : ((p.length + u.length + q.length : Nat) : Int) = (p.length : Int) + u.length + q.length := by omega
  rw [e] at h
  rw [hi, hj, hk]; exact h

set_option maxHeartbeats 1000000 in
theorem rotateQ (base b n cap : Nat) (fv : Value) (p u v r : List Parcel) (w : World) (i j k : Int) (hi : i = p.length) (hj : j = p.length + u.length) (hk : k = p.length + u.length + v.length) (hn : n ≤ 70368744177664) (hu : 0 < u.length) (hv : 0 < v.length) (H : RowQ w base b n cap (p ++ u ++ v ++ r)) :
    Calls Try.prog 135 #[.slice (some ⟨b, 0, none⟩) n cap, .int .i64 i, .int .i64 j, .int .i64 k, fv] w
      fun e w' => e = .returned (.tuple #[]) ∧ RowQ w' base b n cap (p ++ v ++ u ++ r) ∧ Mods [b] w w' := by
  have hlen := H.length
  simp only [List.length_append] at hlen
  have HR := Lib.hid H
  clear H
  have hb0 : 0 ≤ i ∧ i < j ∧ j < k ∧ k ≤ n := by omega
  obtain ⟨h0, h1, h2, h3⟩ := hb0
  have HI := Lib.hid hi; have HJ := Lib.hid hj; have HK := Lib.hid hk; have HL := Lib.hid hlen
  have e1 : j - i = (u.length : Int) := by omega
  have e2 : k - j = (v.length : Int) := by omega
  have E1 := Lib.hid e1; have E2 := Lib.hid e2
  clear hi hj hk hlen e1 e2
  go_enter Try.func135, Try.ntmps135
  go_wp2
  go_loopw [10, 11] (fun x y wr => ∃ P U V R : List Parcel, 0 < U.length ∧ 0 < V.length ∧ x = .int .i64 U.length ∧ y = .int .i64 V.length ∧ Hid (j = P.length + U.length) ∧ j + V.length ≤ k ∧ (U.length : Int) ≤ j ∧ RowQ wr base b n cap (P ++ U ++ V ++ R) ∧ Hid (P ++ V ++ U ++ R = p ++ v ++ u ++ r) ∧ Mods [b] w wr) (fun x y _ => ((intOf x) + (intOf y)).toNat)
  case atStart => exact ⟨p, u, v, r, hu, hv, by rw [E1.out], by rw [E2.out], HJ.out, by have := E2.out; omega, by have := E1.out; omega, HR.out, rfl, Mods.refl _ _⟩
  case round =>
    obtain ⟨P, U, V, R, hU, hV, rfl, rfl, HP, hkk, hUj, hR, HE, hM⟩ := hrel
    have HRR := Lib.hid hR; have HM := Lib.hid hM
    clear hR hM
    rcases Nat.lt_trichotomy U.length V.length with hlt | heq | hgt
    · have hne : ((U.length : Int) != (V.length : Int)) = true := by simp; omega
      obtain ⟨V1, V2, hV12, hV1, hV2⟩ : ∃ V1 V2, V = V1 ++ V2 ∧ V2.length = U.length ∧ V1.length = V.length - U.length := ⟨V.take (V.length - U.length), V.drop (V.length - U.length), by simp, by simp; omega, by simp⟩
      have hR2 := HRR.out
      rw [hV12] at hR2
      have HR2 := Lib.hid (show RowQ wr base b n cap (P ++ U ++ V1 ++ V2 ++ R) from by simpa only [List.append_assoc] using hR2)
      have HV12 := Lib.hid hV12; have HV1 := Lib.hid hV1; have HV2 := Lib.hid hV2
      clear hR2 hV12 hV1 hV2
      go_wp2_with fail
      refine (swapRangeQ' base b n cap fv P U V1 V2 R wr _ _ _ (by have := HP.out; omega) (by have := HP.out; have := HV1.out; have := HV2.out; omega) rfl hn HV1.out.symm HR2.out).mono ?_
      rintro e w' ⟨rfl, hR3, hM3⟩
      have HR3 := Lib.hid hR3; have HM3 := Lib.hid hM3
      clear hR3 hM3
      go_wp2_with fail
      go_roundw
      case rel =>
        have hv2 := HV2.out; have hv1 := HV1.out
        refine ⟨P, V2, V1, U ++ R, by omega, by omega, by rw [hv1], by rw [hv2]; congr 1; omega, ?_, by omega, by omega, by simpa only [List.append_assoc] using HR3.out, ?_, HM.out.trans HM3.out⟩
        · have := HP.out; show j = _; omega
        · rw [← HE.out, HV12.out]; show _ = _; simp only [List.append_assoc]
      case measure => simp [intOf]; omega
    · have hne : ((U.length : Int) != (V.length : Int)) = false := by simp; omega
      have HEQ := Lib.hid heq; clear heq
      have HR2 := Lib.hid (show RowQ wr base b n cap (P ++ U ++ [] ++ V ++ R) from by simpa only [List.append_nil] using HRR.out)
      go_wp2_with fail
      refine (swapRangeQ' base b n cap fv P U [] V R wr _ _ _ (by have := HP.out; omega) (by have := HP.out; simp; omega) rfl hn HEQ.out HR2.out).mono ?_
      rintro e w' ⟨rfl, hR3, hM3⟩
      have hR4 : RowQ w' base b n cap (p ++ v ++ u ++ r) := by rw [← HE.out]; simpa only [List.append_nil] using hR3
      have HR4 := Lib.hid hR4; have HM3 := Lib.hid hM3
      clear hR3 hM3 hR4
      go_wp2_with fail
      go_end0
      exact ⟨rfl, HR4.out, HM.out.trans HM3.out⟩
    · have hne : ((U.length : Int) != (V.length : Int)) = true := by simp; omega
      obtain ⟨U1, U2, hU12, hU1, hU2⟩ : ∃ U1 U2, U = U1 ++ U2 ∧ U1.length = V.length ∧ U2.length = U.length - V.length := ⟨U.take V.length, U.drop V.length, by simp, by simp; omega, by simp⟩
      have hR2 := HRR.out
      rw [hU12] at hR2
      have HR2 := Lib.hid (show RowQ wr base b n cap (P ++ U1 ++ U2 ++ V ++ R) from by simpa only [List.append_assoc] using hR2)
      have HU12 := Lib.hid hU12; have HU1 := Lib.hid hU1; have HU2 := Lib.hid hU2
      clear hR2 hU12 hU1 hU2
      go_wp2_with fail
      refine (swapRangeQ' base b n cap fv P U1 U2 V R wr _ _ _ (by have := HP.out; omega) (by have := HP.out; have := HU1.out; have := HU2.out; omega) (by have := HU1.out; omega) hn HU1.out HR2.out).mono ?_
      rintro e w' ⟨rfl, hR3, hM3⟩
      have HR3 := Lib.hid hR3; have HM3 := Lib.hid hM3
      clear hR3 hM3
      go_wp2_with fail
      go_roundw
      case rel =>
        have hu2 := HU2.out; have hu1 := HU1.out
        refine ⟨P ++ V, U2, U1, R, by omega, by omega, by rw [hu2]; congr 1; omega, by rw [hu1], ?_, by omega, by omega, by simpa only [List.append_assoc] using HR3.out, ?_, HM.out.trans HM3.out⟩
        · have := HP.out; show j = _; rw [List.length_append]; omega
        · rw [← HE.out, HU12.out]; show _ = _; simp only [List.append_assoc]
      case measure => simp [intOf]; omega

end Go.Proofs.Ytoanhnebalapeaa
