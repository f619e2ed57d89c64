/- What the library's stable sort does with parcels (size.less). -/
import Derived.Test.YtbljoihnjhllhaaLensFlat4
import Derived.Test.YtbljoihnjhllhaaLensFlat1
import Derived.Deep.RegionHeld3
namespace Go.Proofs.Ytbljoihnjhllhaa
open Go.RowKit
open Go.Proofs.YtbljoihnjhllhaaW.PrintWords
open Srt

structure Parcel where
  sum : Int
  A : Option Addr
  n : Nat
  c : Nat
instance : Inhabited Parcel := ⟨⟨0, none, 0, 0⟩⟩
def Parcel.cells (p : Parcel) : List Value := [.int .i64 p.sum, .slice p.A p.n p.c]
def pcs (xs : List Parcel) : List Value := xs.flatMap Parcel.cells
theorem pcs_length (xs : List Parcel) : (pcs xs).length = xs.length * 2 := by
  induction xs with
  | nil => rfl
  | cons p xs ih =>
    have : pcs (p :: xs) = p.cells ++ pcs xs := rfl
    rw [this, List.length_append, ih, List.length_cons]
    show 2 + _ = _
    omega
theorem pcs_get (xs : List Parcel) (i : Nat) (p : Parcel) (h : xs[i]? = some p) : (pcs xs)[i * 2]? = some (.int .i64 p.sum) ∧ (pcs xs)[i * 2 + 1]? = some (.slice p.A p.n p.c) := by
  induction xs generalizing i with
  | nil => simp at h
  | cons q xs ih =>
    have e : pcs (q :: xs) = .int .i64 q.sum :: .slice q.A q.n q.c :: pcs xs := rfl
    rw [e]
    cases i with
    | zero => simp at h; subst h; exact ⟨rfl, rfl⟩
    | succ i =>
      simp at h
      have := ih i h
      rw [show (i + 1) * 2 = i * 2 + 1 + 1 from by omega]
      simpa using this
theorem pcs_set (xs : List Parcel) (i : Nat) (p : Parcel) (h : i < xs.length) : ((pcs xs).set (i * 2) (.int .i64 p.sum)).set (i * 2 + 1) (.slice p.A p.n p.c) = pcs (xs.set i p) := by
  induction xs generalizing i with
  | nil => simp at h
  | cons q xs ih =>
    have e : pcs (q :: xs) = .int .i64 q.sum :: .slice q.A q.n q.c :: pcs xs := rfl
    rw [e]
    cases i with
    | zero => rfl
    | succ i =>
      simp at h
      have := ih i h
      rw [show (i + 1) * 2 = i * 2 + 1 + 1 from by omega]
      simp only [List.set_cons_succ]
      rw [this]; rfl

def RowQ (w : World) (base b n cap : Nat) (xs : List Parcel) : Prop := w.ownsRow base 93 2 (.slice (some ⟨b, 0, none⟩) n cap) n (pcs xs)
theorem RowQ.length {w : World} {base b n cap : Nat} {xs : List Parcel} (H : RowQ w base b n cap xs) : xs.length = n := by have := H.1; rw [pcs_length] at this; omega
theorem RowQ.blk {w : World} {base b n cap : Nat} {xs : List Parcel} (H : RowQ w base b n cap xs) : ∃ cur, w.heap[b]? = some (.cells cur 93 (0, 0)) ∧ cur.size = cap * 2 ∧ cur.toList.take (n * 2) = pcs xs ∧ n ≤ cap := by
  rcases H.2 with ⟨h', _⟩ | ⟨g, c, cur, h', h1, h2, h3, h4, h5, h6⟩
  · cases h'
  · injection h' with h7 h8 h9
    injection h7 with h7
    injection h7 with h7
    subst h7 h9
    exact ⟨cur, h2, h5, h6, h3⟩
theorem RowQ.at {w : World} {base b n cap : Nat} {xs : List Parcel} (H : RowQ w base b n cap xs) (i : Nat) (p : Parcel) (h : xs[i]? = some p) :
    w.cell? ⟨b, i * 2, none⟩ = some (.int .i64 p.sum) ∧ w.cell? ⟨b, i * 2 + 1, none⟩ = some (.slice p.A p.n p.c) ∧ w.frozen? ⟨b, i * 2, none⟩ = false ∧ w.frozen? ⟨b, i * 2 + 1, none⟩ = false := by
  obtain ⟨cur, hb, hs, ht, hc⟩ := H.blk
  have hl := H.length
  have hi : i < xs.length := (List.getElem?_eq_some_iff.1 h).1
  obtain ⟨h1, h2⟩ := pcs_get xs i p h
  rw [← ht, List.getElem?_take_of_lt (by omega)] at h1
  rw [← ht, List.getElem?_take_of_lt (by omega)] at h2
  refine ⟨?_, ?_, free_blk hb _, free_blk hb _⟩
  · rw [cell_blk hb]; simpa using h1
  · rw [cell_blk hb]; simpa using h2
theorem RowQ.set {w : World} {base b n cap : Nat} {xs : List Parcel} (H : RowQ w base b n cap xs) (i : Nat) (p : Parcel) (hi : i < n) : RowQ ((w.setCell ⟨b, i * 2, none⟩ (.int .i64 p.sum)).setCell ⟨b, i * 2 + 1, none⟩ (.slice p.A p.n p.c)) base b n cap (xs.set i p) := by
  have h1 := (World.ownsRow.stored H (i * 2) (.int .i64 p.sum)).1
  have h2 := (World.ownsRow.stored h1 (i * 2 + 1) (.slice p.A p.n p.c)).1
  rw [pcs_set xs i p (by have := H.length; omega)] at h2
  exact h2
theorem RowQ.drew {w : World} {base b n cap : Nat} {xs : List Parcel} (H : RowQ w base b n cap xs) : RowQ w.drew base b n cap xs := World.ownsRow.drew H
theorem RowQ.mods {S : List Nat} {w w' : World} {base b n cap : Nat} {xs : List Parcel} (H : RowQ w base b n cap xs) (hm : Mods S w w') (hb : b ∉ S) : RowQ w' base b n cap xs := own_move H (fun k hk => by
  have e : b = k := by simpa [Value.ownBlock] using hk
  subst e
  exact hm.block b (own_lt H b rfl) hb)
theorem RowQ.drewN {w : World} {base b n cap : Nat} {xs : List Parcel} (H : RowQ w base b n cap xs) (m : Nat) : RowQ (w.drewN m) base b n cap xs := H.mods ((Mods.refl [] _).drewN m) (by simp)

def cmpS (x y : Int) : Int := if x < y then -1 else if y < x then 1 else 0
theorem cmpS_yes {x y : Int} (h : x < y) : decide (cmpS x y < 0) = true := by unfold cmpS; rw [if_pos h]; decide
theorem cmpS_no {x y : Int} (h : ¬ x < y) : decide (cmpS x y < 0) = false := by unfold cmpS; rw [if_neg h]; split <;> decide
theorem cmpS_bounds (x y : Int) : -1 ≤ cmpS x y ∧ cmpS x y ≤ 1 := by unfold cmpS; split <;> (try split) <;> omega
set_option maxHeartbeats 400000 in
theorem less1 (x y : Int) (u v : Value) (w : World) :
    Calls Try.prog 61 #[.agg #[.int .i64 x, u], .agg #[.int .i64 y, v]] w fun e w' => e = .returned (.int .i64 (cmpS x y)) ∧ w' = (w.alloc (.cells #[.int .i64 x, u] 93)).alloc (.cells #[.int .i64 y, v] 93) := by
  unfold cmpS
  by_cases h1 : x < y
  · rw [if_pos h1]
    go_enter Try.func61, Try.ntmps61
    go_wp2
    go_ret
    exact ⟨rfl, rfl⟩
  · rw [if_neg h1]
    by_cases h2 : y < x
    · rw [if_pos h2]
      go_enter Try.func61, Try.ntmps61
      go_wp2
      go_ret
      exact ⟨rfl, rfl⟩
    · rw [if_neg h2]
      go_enter Try.func61, Try.ntmps61
      go_wp2
      go_ret
      exact ⟨rfl, rfl⟩

set_option maxHeartbeats 1000000 in
theorem swapRangeQ (base b n cap : Nat) (fv : Value) (p u q v r : List Parcel) (w : World) (hn : n ≤ 70368744177664) (huv : u.length = v.length) (H : RowQ w base b n cap (p ++ u ++ q ++ v ++ r)) :
    Calls Try.prog 78 #[.slice (some ⟨b, 0, none⟩) n cap, .int .i64 p.length, .int .i64 (p.length + u.length + q.length : Nat), .int .i64 u.length, fv] w
      fun e w' => e = .returned (.tuple #[]) ∧ RowQ w' base b n cap (p ++ v ++ q ++ u ++ r) ∧ Mods [b] w w' := by
  have hlen := H.length
  simp only [List.length_append] at hlen
  have HR := Lib.hid H; have HUV := Lib.hid huv
  have hb1 : p.length + u.length + q.length + u.length ≤ n := by omega
  have HL := Lib.hid hlen
  clear H huv hlen
  generalize hpl : p.length = P at *
  generalize hul : u.length = U at *
  generalize hql : q.length = Q at *
  have HPL := Lib.hid hpl; have HUL := Lib.hid hul; have HQL := Lib.hid hql
  clear hpl hul hql
  go_enter Try.func78, Try.ntmps78
  go_wp2
  go_loopw [10] (fun i wr => ∃ k : Nat, k ≤ U ∧ i = .int .i64 k ∧ RowQ wr base b n cap (p ++ (v.take k ++ u.drop k) ++ q ++ (u.take k ++ v.drop k) ++ r) ∧ Mods [b] w wr) (fun i _ => U - (intOf i).toNat)
  case atStart => exact ⟨0, by omega, rfl, by simpa using HR.out, Mods.refl _ _⟩
  case round =>
    obtain ⟨k, hk, rfl, hR, hM⟩ := hrel
    have HRR := Lib.hid hR; have HM := Lib.hid hM
    clear hR hM
    by_cases hlt : k < U
    · obtain ⟨x, y, hx, hy, hstep⟩ := range_step p u q v r k (P + k) (P + U + Q + k) (by rw [HUL.out]; exact hlt) (by rw [HUL.out, HUV.out]) (by rw [HPL.out]) (by rw [HPL.out, HUL.out, HQL.out])
      obtain ⟨hc1, hc1', hf1, hf1'⟩ := HRR.out.at (P + k) x hx
      obtain ⟨hc2, hc2', hf2, hf2'⟩ := HRR.out.at (P + U + Q + k) y hy
      have HS := Lib.hid hstep
      clear hx hy hstep
      go_wp2
      go_region
      go_wp2
      go_roundw
      case rel =>
        refine ⟨k + 1, by omega, by go_num, ?_, ((((HM.out.setCell (by simp) _).setCell (by simp) _).setCell (by simp) _).setCell (by simp) _).drew⟩
        have h := ((HRR.out.set (P + k) y (by omega)).set (P + U + Q + k) x (by omega)).drew
        rw [HS.out] at h
        exact h
      case measure => simp [intOf]; omega
    · have hkU : k = U := by omega
      have h := HRR.out
      rw [hkU, List.take_of_length_le (by rw [← HUV.out]; exact Nat.le_refl _), List.drop_of_length_le (by rw [HUL.out]; exact Nat.le_refl _), List.take_of_length_le (by rw [HUL.out]; exact Nat.le_refl _), List.drop_of_length_le (by rw [← HUV.out]; exact Nat.le_refl _), List.append_nil, List.append_nil] at h
      have HF := Lib.hid h
      clear h hkU
      go_wp2
      go_end0
      exact ⟨rfl, HF.out, HM.out⟩

theorem swapRangeQ' (base b n cap : Nat) (fv : Value) (p u q v r : List Parcel) (w : World) (i j k : Int) (hi : i = p.length) (hj : j = p.length + u.length + q.length) (hk : k = u.length) (hn : n ≤ 70368744177664) (huv : u.length = v.length) (H : RowQ w base b n cap (p ++ u ++ q ++ v ++ r)) :
    Calls Try.prog 78 #[.slice (some ⟨b, 0, none⟩) n cap, .int .i64 i, .int .i64 j, .int .i64 k, fv] w
      fun e w' => e = .returned (.tuple #[]) ∧ RowQ w' base b n cap (p ++ v ++ q ++ u ++ r) ∧ Mods [b] w w' := by
  have h := swapRangeQ base b n cap fv p u q v r w hn huv H
  have e : ((p.length + u.length + q.length : Nat) : Int) = (p.length : Int) + u.length + q.length := by omega
  rw [e] at h
  rw [hi, hj, hk]; exact h

set_option maxHeartbeats 1000000 in
theorem rotateQ (base b n cap : Nat) (fv : Value) (p u v r : List Parcel) (w : World) (i j k : Int) (hi : i = p.length) (hj : j = p.length + u.length) (hk : k = p.length + u.length + v.length) (hn : n ≤ 70368744177664) (hu : 0 < u.length) (hv : 0 < v.length) (H : RowQ w base b n cap (p ++ u ++ v ++ r)) :
    Calls Try.prog 77 #[.slice (some ⟨b, 0, none⟩) n cap, .int .i64 i, .int .i64 j, .int .i64 k, fv] w
      fun e w' => e = .returned (.tuple #[]) ∧ RowQ w' base b n cap (p ++ v ++ u ++ r) ∧ Mods [b] w w' := by
  have hlen := H.length
  simp only [List.length_append] at hlen
  have HR := Lib.hid H
  clear H
  have hb0 : 0 ≤ i ∧ i < j ∧ j < k ∧ k ≤ n := by omega
  obtain ⟨h0, h1, h2, h3⟩ := hb0
  have HI := Lib.hid hi; have HJ := Lib.hid hj; have HK := Lib.hid hk; have HL := Lib.hid hlen
  have e1 : j - i = (u.length : Int) := by omega
  have e2 : k - j = (v.length : Int) := by omega
  have E1 := Lib.hid e1; have E2 := Lib.hid e2
  clear hi hj hk hlen e1 e2
  go_enter Try.func77, Try.ntmps77
  go_wp2
  go_loopw [10, 11] (fun x y wr => ∃ P U V R : List Parcel, 0 < U.length ∧ 0 < V.length ∧ x = .int .i64 U.length ∧ y = .int .i64 V.length ∧ Hid (j = P.length + U.length) ∧ j + V.length ≤ k ∧ (U.length : Int) ≤ j ∧ RowQ wr base b n cap (P ++ U ++ V ++ R) ∧ Hid (P ++ V ++ U ++ R = p ++ v ++ u ++ r) ∧ Mods [b] w wr) (fun x y _ => ((intOf x) + (intOf y)).toNat)
  case atStart => exact ⟨p, u, v, r, hu, hv, by rw [E1.out], by rw [E2.out], HJ.out, by have := E2.out; omega, by have := E1.out; omega, HR.out, rfl, Mods.refl _ _⟩
  case round =>
    obtain ⟨P, U, V, R, hU, hV, rfl, rfl, HP, hkk, hUj, hR, HE, hM⟩ := hrel
    have HRR := Lib.hid hR; have HM := Lib.hid hM
    clear hR hM
    rcases Nat.lt_trichotomy U.length V.length with hlt | heq | hgt
    · have hne : ((U.length : Int) != (V.length : Int)) = true := by simp; omega
      obtain ⟨V1, V2, hV12, hV1, hV2⟩ : ∃ V1 V2, V = V1 ++ V2 ∧ V2.length = U.length ∧ V1.length = V.length - U.length := ⟨V.take (V.length - U.length), V.drop (V.length - U.length), by simp, by simp; omega, by simp⟩
      have hR2 := HRR.out
      rw [hV12] at hR2
      have HR2 := Lib.hid (show RowQ wr base b n cap (P ++ U ++ V1 ++ V2 ++ R) from by simpa only [List.append_assoc] using hR2)
      have HV12 := Lib.hid hV12; have HV1 := Lib.hid hV1; have HV2 := Lib.hid hV2
      clear hR2 hV12 hV1 hV2
      go_wp2_with fail
      refine (swapRangeQ' base b n cap fv P U V1 V2 R wr _ _ _ (by have := HP.out; omega) (by have := HP.out; have := HV1.out; have := HV2.out; omega) rfl hn HV1.out.symm HR2.out).mono ?_
      rintro e w' ⟨rfl, hR3, hM3⟩
      have HR3 := Lib.hid hR3; have HM3 := Lib.hid hM3
      clear hR3 hM3
      go_wp2_with fail
      go_roundw
      case rel =>
        have hv2 := HV2.out; have hv1 := HV1.out
        refine ⟨P, V2, V1, U ++ R, by omega, by omega, by rw [hv1], by rw [hv2]; congr 1; omega, ?_, by omega, by omega, by simpa only [List.append_assoc] using HR3.out, ?_, HM.out.trans HM3.out⟩
        · have := HP.out; show j = _; omega
        · rw [← HE.out, HV12.out]; show _ = _; simp only [List.append_assoc]
      case measure => simp [intOf]; omega
    · have hne : ((U.length : Int) != (V.length : Int)) = false := by simp; omega
      have HEQ := Lib.hid heq; clear heq
      have HR2 := Lib.hid (show RowQ wr base b n cap (P ++ U ++ [] ++ V ++ R) from by simpa only [List.append_nil] using HRR.out)
      go_wp2_with fail
      refine (swapRangeQ' base b n cap fv P U [] V R wr _ _ _ (by have := HP.out; omega) (by have := HP.out; simp; omega) rfl hn HEQ.out HR2.out).mono ?_
      rintro e w' ⟨rfl, hR3, hM3⟩
      have hR4 : RowQ w' base b n cap (p ++ v ++ u ++ r) := by rw [← HE.out]; simpa only [List.append_nil] using hR3
      have HR4 := Lib.hid hR4; have HM3 := Lib.hid hM3
      clear hR3 hM3 hR4
      go_wp2_with fail
      go_end0
      exact ⟨rfl, HR4.out, HM.out.trans HM3.out⟩
    · have hne : ((U.length : Int) != (V.length : Int)) = true := by simp; omega
      obtain ⟨U1, U2, hU12, hU1, hU2⟩ : ∃ U1 U2, U = U1 ++ U2 ∧ U1.length = V.length ∧ U2.length = U.length - V.length := ⟨U.take V.length, U.drop V.length, by simp, by simp; omega, by simp⟩
      have hR2 := HRR.out
      rw [hU12] at hR2
      have HR2 := Lib.hid (show RowQ wr base b n cap (P ++ U1 ++ U2 ++ V ++ R) from by simpa only [List.append_assoc] using hR2)
      have HU12 := Lib.hid hU12; have HU1 := Lib.hid hU1; have HU2 := Lib.hid hU2
      clear hR2 hU12 hU1 hU2
      go_wp2_with fail
      refine (swapRangeQ' base b n cap fv P U1 U2 V R wr _ _ _ (by have := HP.out; omega) (by have := HP.out; have := HU1.out; have := HU2.out; omega) (by have := HU1.out; omega) hn HU1.out HR2.out).mono ?_
      rintro e w' ⟨rfl, hR3, hM3⟩
      have HR3 := Lib.hid hR3; have HM3 := Lib.hid hM3
      clear hR3 hM3
      go_wp2_with fail
      go_roundw
      case rel =>
        have hu2 := HU2.out; have hu1 := HU1.out
        refine ⟨P ++ V, U2, U1, R, by omega, by omega, by rw [hu2]; congr 1; omega, by rw [hu1], ?_, by omega, by omega, by simpa only [List.append_assoc] using HR3.out, ?_, HM.out.trans HM3.out⟩
        · have := HP.out; show j = _; rw [List.length_append]; omega
        · rw [← HE.out, HU12.out]; show _ = _; simp only [List.append_assoc]
      case measure => simp [intOf]; omega

end Go.Proofs.Ytbljoihnjhllhaa

/- What the library's insertion sort does with parcels. -/
namespace Go.Proofs.Ytbljoihnjhllhaa
open Go.RowKit
open Go.Proofs.YtbljoihnjhllhaaW.PrintWords
open Srt

abbrev lessV : Value := .func (.func 61) #[] #[]

set_option maxHeartbeats 2000000 in
theorem insertionQ (base b n cap : Nat) (p s r : List Parcel) (w : World) (i j : Int) (hi : i = p.length) (hj : j = p.length + s.length) (hn : n ≤ 70368744177664)
    (H : RowQ w base b n cap (p ++ s ++ r)) :
    Calls Try.prog 74 #[.slice (some ⟨b, 0, none⟩) n cap, .int .i64 i, .int .i64 j, lessV] w
      fun e w' => e = .returned (.tuple #[]) ∧ (∃ s', Sorted Parcel.sum s' ∧ FEq Parcel.sum s s' ∧ RowQ w' base b n cap (p ++ s' ++ r)) ∧ Mods [b] w w' := by
  have hlen := H.length
  simp only [List.length_append] at hlen
  have HR := Lib.hid H
  have hb0 : 0 ≤ i ∧ i ≤ j ∧ j ≤ n := by omega
  obtain ⟨h0, h1, h2⟩ := hb0
  have HI := Lib.hid hi; have HJ := Lib.hid hj; have HL := Lib.hid hlen
  have HS : Hid (j - i = (s.length : Int)) := Lib.hid (show j - i = (s.length : Int) from by omega)
  clear H hi hj hlen
  by_cases hs1 : j ≤ i + 1
  · have hsl : Sorted Parcel.sum s := by
      have := HS.out
      match s, this with
      | [], _ => exact sorted_nil _
      | [x], _ => exact sorted_one _ x
      | x :: y :: t, h => simp at h; omega
    have HSL := Lib.hid hsl; clear hsl
    go_enter Try.func74, Try.ntmps74
    go_wp2
    go_loopw [8, 9] (fun x y wr => x = .int .i64 (i + 1) ∧ wr = w) (fun x y _ => 0)
    case atStart => exact ⟨rfl, rfl⟩
    case round =>
      obtain ⟨rfl, rfl⟩ := hrel
      go_wp2
      go_end0
      exact ⟨rfl, ⟨s, HSL.out, FEq.refl _ _, HR.out⟩, Mods.refl _ _⟩
  · obtain ⟨a, rfl⟩ := Int.eq_ofNat_of_zero_le h0
    go_enter Try.func74, Try.ntmps74
    go_wp2
    go_loopw [8, 9] (fun x y wr => ∃ (S T : List Parcel) (m : Nat), x = .int .i64 ((a : Int) + m) ∧ Hid (S.length = m) ∧ 0 < m ∧ (a : Int) + m ≤ j ∧ Hid ((a : Int) + m + T.length = j) ∧ Hid (Sorted Parcel.sum S ∧ FEq Parcel.sum s (S ++ T)) ∧ Hid (RowQ wr base b n cap (p ++ S ++ T ++ r)) ∧ Hid (Mods [b] w wr)) (fun x _ _ => (j - intOf x).toNat)
    case atStart =>
      have h := HS.out
      have hr := HR.out
      match s, h, hr with
      | [], h, _ => simp at h; omega
      | x :: t, h, hr =>
        simp at h
        exact ⟨[x], t, 1, by simp, rfl, by omega, by omega, by show _ = j; omega, ⟨sorted_one _ x, FEq.refl _ _⟩, by show RowQ _ _ _ _ _ _; simpa using hr, Mods.refl _ _⟩
    case round =>
      obtain ⟨S, T, m, rfl, HSm, hm0, hmj, HST, HSF, HR1, HM⟩ := hrel
      by_cases hlt : (a : Int) + m < j
      · obtain ⟨z, T', hT'⟩ : ∃ z T', T = z :: T' := by
          have h := HST.out
          cases T with
          | nil => simp at h; omega
          | cons z T' => exact ⟨z, T', rfl⟩
        subst hT'
        obtain ⟨wo, hwo⟩ : ∃ wo : World, wo = wr := ⟨_, rfl⟩
        subst hwo
        go_wp2
        go_loopw [9] (fun y wr => ∃ (L R : List Parcel) (l : Nat), y = .int .i64 ((a : Int) + l) ∧ Hid (L.length = l) ∧ Hid (L.length + R.length = m) ∧ l ≤ m ∧ Hid (Sorted Parcel.sum (L ++ R) ∧ (∀ y ∈ R, Parcel.sum z < Parcel.sum y) ∧ FEq Parcel.sum s (L ++ z :: R ++ T')) ∧ Hid (RowQ wr base b n cap (p ++ L ++ z :: R ++ T' ++ r)) ∧ Hid (Mods [b] w wr)) (fun y _ => (intOf y).toNat)
        case atStart => exact ⟨S, [], m, rfl, HSm.out, by simpa [Hid] using HSm.out, Nat.le_refl _, ⟨by simpa using HSF.out.1, by simp, by simpa using HSF.out.2⟩, by simpa [Hid] using HR1.out, HM.out⟩
        case round =>
          obtain ⟨L, R, l, rfl, HLl, HLR, hLS, HF, HR2, HM2⟩ := hrel
          have hout : Hid (∀ w', RowQ w' base b n cap (p ++ L ++ z :: R ++ T' ++ r) → Sorted Parcel.sum (L ++ z :: R) → (L ++ z :: R).length = m + 1 ∧ Sorted Parcel.sum (L ++ z :: R) ∧ FEq Parcel.sum s ((L ++ z :: R) ++ T') ∧ RowQ w' base b n cap (p ++ (L ++ z :: R) ++ T' ++ r)) :=
            Lib.hid (show ∀ w', RowQ w' base b n cap (p ++ L ++ z :: R ++ T' ++ r) → Sorted Parcel.sum (L ++ z :: R) → (L ++ z :: R).length = m + 1 ∧ Sorted Parcel.sum (L ++ z :: R) ∧ FEq Parcel.sum s ((L ++ z :: R) ++ T') ∧ RowQ w' base b n cap (p ++ (L ++ z :: R) ++ T' ++ r) from
              fun w' h hs => ⟨by have := HLR.out; simp; omega, hs, by simpa using HF.out.2.2, by simpa using h⟩)
          by_cases hl : l = 0
          · have hL : L = [] := by have := HLl.out; rw [hl] at this; exact List.eq_nil_of_length_eq_zero this
            have hdec : decide ((a : Int) < (a : Int) + (l : Int)) = false := by simp; omega
            have hfin := hout.out
            rw [hL] at hfin
            have hs0 : Sorted Parcel.sum ([] ++ z :: R) := insert_done (by have := HF.out.1; rwa [hL] at this) HF.out.2.1 (by simp)
            have hr0 := HR2.out
            rw [hL] at hr0
            have HS0 := Lib.hid hs0; have HFIN := Lib.hid hfin; have HR0 := Lib.hid hr0
            clear hL hs0 hfin hr0 hl
            go_wp2
            go_quiet (fail)
            go_wp2
            go_roundw
            case rel =>
              obtain ⟨q1, q2, q3, q4⟩ := HFIN.out _ (HR0.out.drewN _) HS0.out
              refine ⟨_, T', m + 1, by go_num, q1, by omega, by omega, ?_, ⟨q2, q3⟩, q4, HM2.out.drewN _⟩
              have := HST.out; simp at this; show _ = j; simp; omega
            case measure => simp [intOf]; omega
          · obtain ⟨l', rfl⟩ : ∃ l', l = l' + 1 := ⟨l - 1, by omega⟩
            obtain ⟨L', y, hL'⟩ : ∃ L' y, L = L' ++ [y] := by
              have := HLl.out
              rcases List.eq_nil_or_concat L with e | ⟨L', y, e⟩
              · rw [e] at this; simp at this
              · exact ⟨L', y, by simpa using e⟩
            have hL'l : L'.length = l' := by have := HLl.out; rw [hL'] at this; simpa using this
            have hpl : p.length = a := by have := HI.out; omega
            have hr := HR2.out
            rw [hL'] at hr
            have hfit : a + l' + 1 < n := by
              have h1 := hr.length
              simp at h1; omega
            have ez : (p ++ (L' ++ [y]) ++ z :: R ++ T' ++ r)[a + l' + 1]? = some z := by
              have e : p ++ (L' ++ [y]) ++ z :: R ++ T' ++ r = (p ++ L' ++ [y]) ++ z :: (R ++ T' ++ r) := by simp
              rw [e]; exact get_mid _ _ _ _ (by simp; omega)
            have ey : (p ++ (L' ++ [y]) ++ z :: R ++ T' ++ r)[a + l']? = some y := by
              have e : p ++ (L' ++ [y]) ++ z :: R ++ T' ++ r = (p ++ L') ++ y :: (z :: R ++ T' ++ r) := by simp
              rw [e]; exact get_mid _ _ _ _ (by simp; omega)
            obtain ⟨hc1, hc1', hf1, hf1'⟩ := hr.at _ _ ez
            obtain ⟨hc2, hc2', hf2, hf2'⟩ := hr.at _ _ ey
            have HEZ := Lib.hid ez; have HEY := Lib.hid ey
            have HR3 := Lib.hid hr; have HL' := Lib.hid hL'; have HPL := Lib.hid hpl; have HLL := Lib.hid hL'l
            clear hr ez ey hL' hpl hL'l
            have hdec : decide ((a : Int) < (a : Int) + ((l' : Int) + 1)) = true := by simp; omega
            have hw : IntKind.i64.wrap ((a : Int) + ((l' : Int) + 1) - 1) = (a : Int) + (l' : Int) := by rw [IntWalk.i64_in _ (by omega)]; omega
            have hi1 : (a : Int) + ((l' : Int) + 1) < (n : Int) := by omega
            have hi2 : (a : Int) + (l' : Int) < (n : Int) := by omega
            have hi3 : (0 : Int) ≤ (a : Int) + ((l' : Int) + 1) := by omega
            have hi4 : (0 : Int) ≤ (a : Int) + (l' : Int) := by omega
            have ht1 : ((a : Int) + ((l' : Int) + 1)).toNat = a + (l' + 1) := by omega
            have ht2 : ((a : Int) + (l' : Int)).toNat = a + l' := by omega
            rw [Nat.add_assoc] at hc1 hf1 hc1' hf1'
            have hne0 := World.new_ne wr _ hc1; have hne1 := World.new_ne wr _ hc1'; have hne2 := World.new_ne wr _ hc2; have hne3 := World.new_ne wr _ hc2'
            by_cases hk : z.sum < y.sum
            · have hcmp := cmpS_yes hk
              go_wp2
              go_region_held3 (fun w' => w'.cell? ⟨b, (a + (l' + 1)) * 2, none⟩ = some (.int .i64 z.sum) ∧ w'.cell? ⟨b, (a + (l' + 1)) * 2 + 1, none⟩ = some (.slice z.A z.n z.c) ∧ w'.cell? ⟨b, (a + l') * 2, none⟩ = some (.int .i64 y.sum) ∧ w'.cell? ⟨b, (a + l') * 2 + 1, none⟩ = some (.slice y.A y.n y.c)) (go_keep) ((go_at_call 61; refine (less1 _ _ _ _ _).mono ?_; rintro e w' ⟨rfl, rfl⟩))
              have hMw : Mods [] wr (((wr.alloc (.cells #[.int .i64 z.sum, .slice z.A z.n z.c] 93)).alloc (.cells #[.int .i64 y.sum, .slice y.A y.n y.c] 93)).drew) := (((Mods.refl [] wr).alloc _).alloc _).drew
              generalize hwc : ((wr.alloc (.cells #[.int .i64 z.sum, .slice z.A z.n z.c] 93)).alloc (.cells #[.int .i64 y.sum, .slice y.A y.n y.c] 93)).drew = wc at *
              have hRc := HR3.out.mods hMw (by simp)
              have HMc := Lib.hid (HM2.out.trans (hMw.mono (by simp)))
              clear hwc hMw hc1 hc1' hc2 hc2' hf1 hf1' hf2 hf2' hne0 hne1 hne2 hne3
              obtain ⟨hc1, hc1', hf1, hf1'⟩ := hRc.at _ _ HEZ.out
              obtain ⟨hc2, hc2', hf2, hf2'⟩ := hRc.at _ _ HEY.out
              rw [Nat.add_assoc] at hc1 hf1 hc1' hf1'
              have HRc := Lib.hid hRc
              clear hRc
              go_wp2
              go_region
              go_wp2
              go_roundw
              case rel =>
                have hlz : z.sum < y.sum := hk
                have hF := HF.out
                rw [HL'.out] at hF
                refine ⟨L', y :: R, l', rfl, HLL.out, ?_, by omega, ⟨sorted_mid hF.1, ?_, ?_⟩, ?_, ((((HMc.out.setCell (by simp) _).setCell (by simp) _).setCell (by simp) _).setCell (by simp) _).drew⟩
                · have h1 := HLR.out
                  rw [HL'.out] at h1
                  show _ = _
                  simp at h1 ⊢; omega
                · intro q hq
                  rcases List.mem_cons.1 hq with e | e
                  · rw [e]; exact hlz
                  · exact hF.2.1 q e
                · refine hF.2.2.trans ?_
                  have h := FEq.step (key := Parcel.sum) L' (R ++ T') z y hlz
                  simpa using h
                · have h := ((HRc.out.set (a + (l' + 1)) y (by omega)).set (a + l') z (by omega)).drew
                  have e1 : p ++ (L' ++ [y]) ++ z :: R ++ T' ++ r = (p ++ L') ++ y :: z :: (R ++ T' ++ r) := by simp
                  have hpl : (p ++ L').length = a + l' := by have := HPL.out; have := HLL.out; simp; omega
                  rw [e1, swap_adj (p ++ L') (R ++ T' ++ r) y z (a + l') (a + (l' + 1)) (by omega) (by omega)] at h
                  show RowQ _ _ _ _ _ _
                  simpa using h
              case measure => simp [intOf]; omega
            · have hfin : Sorted Parcel.sum (L ++ z :: R) := by
                refine insert_done HF.out.1 HF.out.2.1 ?_
                have h1 := HF.out.1
                rw [HL'.out] at h1 ⊢
                exact last_le (sorted_app.1 h1).1 (by omega)
              have HFIN := Lib.hid hfin; clear hfin
              have hcmp := cmpS_no hk
              go_wp2
              go_region_held3 (fun w' => w'.cell? ⟨b, (a + (l' + 1)) * 2, none⟩ = some (.int .i64 z.sum) ∧ w'.cell? ⟨b, (a + (l' + 1)) * 2 + 1, none⟩ = some (.slice z.A z.n z.c) ∧ w'.cell? ⟨b, (a + l') * 2, none⟩ = some (.int .i64 y.sum) ∧ w'.cell? ⟨b, (a + l') * 2 + 1, none⟩ = some (.slice y.A y.n y.c)) (go_keep) ((go_at_call 61; refine (less1 _ _ _ _ _).mono ?_; rintro e w' ⟨rfl, rfl⟩))
              have hMw : Mods [] wr (((wr.alloc (.cells #[.int .i64 z.sum, .slice z.A z.n z.c] 93)).alloc (.cells #[.int .i64 y.sum, .slice y.A y.n y.c] 93)).drew) := (((Mods.refl [] wr).alloc _).alloc _).drew
              generalize hwc : ((wr.alloc (.cells #[.int .i64 z.sum, .slice z.A z.n z.c] 93)).alloc (.cells #[.int .i64 y.sum, .slice y.A y.n y.c] 93)).drew = wc at *
              have hRc := HR3.out.mods hMw (by simp)
              have HMc := Lib.hid (HM2.out.trans (hMw.mono (by simp)))
              clear hwc hMw hc1 hc1' hc2 hc2' hf1 hf1' hf2 hf2' hne0 hne1 hne2 hne3
              go_wp2
              go_roundw
              case rel =>
                obtain ⟨q1, q2, q3, q4⟩ := hout.out _ (by rw [HL'.out]; exact hRc) HFIN.out
                refine ⟨_, T', m + 1, by go_num, q1, by omega, by omega, ?_, ⟨q2, q3⟩, q4, HMc.out⟩
                have := HST.out; simp at this; show _ = j; simp; omega
              case measure => simp [intOf]; omega
      · go_wp2
        go_end0
        have hT : T = [] := by have h := HST.out; cases T with | nil => rfl | cons => simp at h; omega
        have hr := HR1.out
        have hf := HSF.out
        rw [hT] at hr hf
        exact ⟨rfl, ⟨S, hf.1, by simpa using hf.2, by simpa using hr⟩, HM.out⟩
end Go.Proofs.Ytbljoihnjhllhaa
