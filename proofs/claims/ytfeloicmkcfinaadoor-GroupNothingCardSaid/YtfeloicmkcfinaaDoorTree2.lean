/- What package tree does: reading, cost. -/
import Derived.Test.YtfeloicmkcfinaaDoorTree
namespace Go.Proofs.YtfeloicmkcfinaaDoor
open Go.RowKit
open Go.Proofs.YtfeloicmkcfinaaDoorW.PrintWords
open Srt

theorem IsTree.below {w w' : World} {B hi : Nat} {ls os : List Int} (h : IsTree w B hi ls os) (hb : Below hi w w') : IsTree w' B hi ls os := by
  obtain ⟨h1, h2, h3, h4, h5, Al, cl, Ac, cc, Ao, co, hk, r1, r2, r3, b1, b2, b3⟩ := h
  have hr : ∀ {k : IntKind} {A : Option Addr} {n : Nat} {xs : List Int}, ReadsInt w k A n xs → (∀ ad, A = some ad → ad.block < hi) → ReadsInt w' k A n xs := by
    intro k A n xs hr hA
    refine ⟨hr.1, hr.2.1, fun hn => ?_⟩
    obtain ⟨ad, e, hc⟩ := hr.2.2 hn
    refine ⟨ad, e, fun j hj => ?_⟩
    rw [← hc j hj]
    refine hb.cell ?_
    have e2 := add_block ad j
    rw [e2]; exact hA ad e
  exact ⟨h1, by have := hb.size; omega, h3, h4, h5, Al, cl, Ac, cc, Ao, co, (hb.block B h1).trans hk, hr r1 b1, hr r2 b2, hr r3 b3, b1, b2, b3⟩
theorem IsTree.mods {S : List Nat} {w w' : World} {B hi : Nat} {ls os : List Int} (h : IsTree w B hi ls os) (hm : Mods S w w') (hs : ∀ s ∈ S, hi ≤ s) : IsTree w' B hi ls os :=
  h.below ⟨hm.os, hm.tape, hm.output, hm.size, fun k hk => hm.block k (by have := h.2.1; omega) (fun hc => by have := hs k hc; omega)⟩
theorem IsTree.drewN {w : World} {B hi : Nat} {ls os : List Int} (h : IsTree w B hi ls os) (n : Nat) : IsTree (w.drewN n) B hi ls os := h.below (pw_below_drewN (Below.refl _ _) n)

theorem or_low (v b : Int) (h0 : 0 ≤ v) (h1 : v < 4611686018427387904) (hb : 0 ≤ b ∧ b ≤ 1) : bits BinOp.or .i64 (v * 2) b = v * 2 + b := by
  obtain ⟨a, rfl⟩ := Int.eq_ofNat_of_zero_le h0
  obtain ⟨c, rfl⟩ := Int.eq_ofNat_of_zero_le hb.1
  have hc : (a : Int) * 2 = ((a * 2 : Nat) : Int) := by simp
  rw [hc]
  have h2 := (bits_nat .i64 63 (by decide) (fun n h0 h1 => IntWalk.i64_in n (by omega)) (a * 2) c (by omega) (by omega)).2
  rw [h2, Nat.or_comm, show a * 2 = a <<< 1 from by rw [Nat.shiftLeft_eq], or_shift c a 1 (by omega)]
  simp [Nat.shiftLeft_eq]; omega
theorem one_order {ls os : List Int} (hc : checkS ls = 0) (h : InOrder ls os) (h1 : (oneS ls).2 = true) : 0 < os.length ∧ rd os 0 = (oneS ls).1 := by
  have hm := (one_many (fun t => ((complete hc).1 t).1)).1 h1
  have hn := nonzero_many (ls := ls) (fun t => ((complete hc).1 t).1)
  rw [hm] at hn
  obtain ⟨i, hi⟩ := List.length_eq_one_iff.1 hn
  have e1 : oneS ls = ((i : Int), true) := by unfold oneS; rw [hi]; rfl
  have e2 : posList ls = [(i : Int)] := by
    unfold posList posUp
    have : (List.range ls.length).filter (fun t => decide (0 < ln ls t)) = nonzero ls := by
      unfold nonzero
      apply List.filter_congr
      intro t _
      have := ((complete hc).1 t).1
      by_cases e : ln ls t = 0
      · simp [e]
      · have h2 : 0 < ln ls t := by omega
        simp [e, h2]
    rw [this, hi]; rfl
  have hp := FEq.perm h.2
  rw [e2] at hp
  have e3 : os = [(i : Int)] := List.perm_singleton.1 hp.symm
  rw [e3, e1]
  exact ⟨by simp, rfl⟩

set_option maxHeartbeats 400000 in
theorem read_nil (g : Nat) (w : World) :
    Calls Tryd.prog 19 #[.pointer none, .pointer (some ⟨g, 0, none⟩)] w fun e w' => e = .returned (.tuple #[.int .i64 0, .int .i64 1]) ∧ w = w' := by
  go_enter Tryd.func19, Tryd.ntmps19
  go_wp2
  go_ret2
  exact ⟨rfl, rfl⟩
set_option maxHeartbeats 400000 in
theorem read_over (B g : Nat) (A : Option Addr) (bs : List Int) (p : Nat) (w : World) (h : Rdr w g A bs p true) :
    Calls Tryd.prog 19 #[.pointer (some ⟨B, 0, none⟩), .pointer (some ⟨g, 0, none⟩)] w fun e w' => e = .returned (.tuple #[.int .i64 0, .int .i64 2]) ∧ w = w' := by
  have H := Lib.hid h; clear h
  go_enter Tryd.func19, Tryd.ntmps19
  go_wp2_with (go_at_call 30; refine (over_any g A bs p true w H.out).mono ?_; rintro e w' ⟨rfl, rfl⟩)
  go_ret2
  exact ⟨rfl, rfl⟩
set_option maxHeartbeats 1000000 in
theorem read_one (B hi g : Nat) (ls os : List Int) (A : Option Addr) (bs : List Int) (p : Nat) (w : World) (ht : IsTree w B hi ls os) (h1 : (oneS ls).2 = true) (h : Rdr w g A bs p false) :
    Calls Tryd.prog 19 #[.pointer (some ⟨B, 0, none⟩), .pointer (some ⟨g, 0, none⟩)] w fun e w' => e = .returned (.tuple #[.int .i64 (oneS ls).1, .int .i64 0]) ∧ w = w' := by
  have H := Lib.hid h; clear h
  obtain ⟨_, _, _, hc, ho, Al, cl, Ac, cc, Ao, co, hk, r1, r2, r3, _, _, _⟩ := ht
  obtain ⟨h0, hx⟩ := one_order hc ho h1
  have hc19 : w.cell? ⟨B, 19, none⟩ = some (.bool true) := by rw [cell_blk hk, ← h1]; exact treeCells_one _ _ _ _ _ (by rw [List.length_set, cntK_length])
  have hc18 : w.cell? ⟨B, 18, none⟩ = some (.slice Ao os.length co) := by rw [cell_blk hk]; exact treeCells_sorted _ _ _ _ _ (by rw [List.length_set, cntK_length])
  obtain ⟨ad, rfl, hcell⟩ := ReadsInt.at_ r3 0 (by omega) (by omega)
  have hcell' : w.cell? ad = some (.int .i64 (oneS ls).1) := by rw [← hx]; exact hcell
  generalize (oneS ls).1 = x at *
  have hol : (0 : Int) < (os.length : Int) := by omega
  clear hk r1 r2 r3 hcell hc ho hx h1
  go_enter Tryd.func19, Tryd.ntmps19
  go_wp2_with (go_at_call 30; refine (over_any g A bs p false w H.out).mono ?_; rintro e w' ⟨rfl, rfl⟩)
  go_ret2
  exact ⟨rfl, rfl⟩

set_option maxHeartbeats 1000000 in
theorem read_in (B hi g : Nat) (ls os : List Int) (A : Option Addr) (bs : List Int) (p n s : Nat) (w : World) (ht : IsTree w B hi ls os) (h1 : (oneS ls).2 = false) (h : Rdr w g A bs p false) (hg : hi ≤ g) (hf : Found ls bs p n s) (hp : p + n ≤ 8 * bs.length) :
    Calls Tryd.prog 19 #[.pointer (some ⟨B, 0, none⟩), .pointer (some ⟨g, 0, none⟩)] w fun e w' => e = .returned (.tuple #[.int .i64 s, .int .i64 0]) ∧ Rdr w' g A bs (p + n) false ∧ Mods [g] w w' := by
  have H := Lib.hid h; have HT := Lib.hid ht; have HF := Lib.hid hf
  have hc19 : w.cell? ⟨B, 19, none⟩ = some (.bool false) := by
    obtain ⟨_, _, _, hc, ho, Al, cl, Ac, cc, Ao, co, hk, _⟩ := ht
    rw [cell_blk hk, ← h1]; exact treeCells_one _ _ _ _ _ (by rw [List.length_set, cntK_length])
  clear h ht hf h1
  go_enter Tryd.func19, Tryd.ntmps19
  go_wp2_with (go_at_call 30; refine (over_any g A bs p false w H.out).mono ?_; rintro e w' ⟨rfl, rfl⟩)
  go_loopw [6, 7, 8, 9, 10, 11] (fun a f v i b e wr => ∃ m : Nat, m < n ∧ i = .int .i64 (m + 1 : Nat) ∧ a = .int .i64 (fewer ls (m + 1 : Nat) : Nat) ∧ f = .int .i64 (upTo ls m ls.length) ∧ v = .int .i64 (vAt bs p m) ∧ Hid (Rdr wr g A bs (p + m) false) ∧ Hid (Mods [g] w wr)) (fun _ _ _ i _ _ _ => 16 - (intOf i).toNat)
  case atStart => exact ⟨0, by have := HF.out.1; omega, rfl, by rw [show ((0 + 1 : Nat) : Int) = 1 from rfl, fewer_one]; rfl, by rw [show ((0 : Nat) : Int) = 0 from rfl, upTo_zero], rfl, H.out, Mods.refl _ _⟩
  case round =>
    obtain ⟨m, hm, rfl, rfl, rfl, rfl, HR, HM⟩ := hrel
    have hn15 := HF.out.2.1
    have ht := HT.out.mods HM.out (by simpa using hg)
    obtain ⟨_, _, hlb, hc, ho, Al, cl, Ac, cc, Ao, co, hk, r1, r2, r3, _, _, _⟩ := ht
    have hcm : wr.cell? ⟨B, 2 + (m + 1), none⟩ = some (.int .i64 (eqUp ls (m + 1 : Nat) ls.length : Nat)) := by
      rw [cell_blk hk]; refine treeCells_get _ _ _ _ _ (m + 1) _ ?_
      rw [List.getElem?_set_ne (by omega)]; exact cntK_get ls _ (m + 1) (by omega)
    have hc18 : wr.cell? ⟨B, 18, none⟩ = some (.slice Ao os.length co) := by rw [cell_blk hk]; exact treeCells_sorted _ _ _ _ _ (by rw [List.length_set, cntK_length])
    have hv := vAt_bounds bs p m
    have hpw : (2 : Int) ^ m ≤ 2 ^ 15 := by exact_mod_cast Nat.pow_le_pow_right (by decide) (by omega)
    have hu1 := upTo_lt hc m ls.length (by omega)
    have hu0 := upTo_nonneg ls m ls.length
    have hb := bitAt_bounds bs (p + m)
    have hfw := fewer_le ls (m + 1 : Nat)
    have hbv := Lib.hid (bitsVal_one bs (p + m))
    have HR3 := Lib.hid r3; have HO := Lib.hid ho; have HC := Lib.hid hc
    clear hk r1 r2 r3 ho hc
    go_wp2_with fail
    refine (bits_to (bitAt bs (p + m)) g A bs (p + m) 1 wr hbv (by omega) (by omega) (by omega) HR.out).mono ?_
    rintro e w2 ⟨rfl, hR2, hM2⟩
    have HR2 := Lib.hid hR2; have HM2 := Lib.hid (HM.out.trans hM2)
    have ht2 := HT.out.mods HM2.out (by simpa using hg)
    obtain ⟨_, _, _, _, _, Al2, cl2, Ac2, cc2, Ao2, co2, hk2, _, _, r32, _, _, _⟩ := ht2
    have hcm2 : w2.cell? ⟨B, 2 + (m + 1), none⟩ = some (.int .i64 (eqUp ls (m + 1 : Nat) ls.length : Nat)) := by
      rw [cell_blk hk2]; refine treeCells_get _ _ _ _ _ (m + 1) _ ?_
      rw [List.getElem?_set_ne (by omega)]; exact cntK_get ls _ (m + 1) (by omega)
    have hc182 : w2.cell? ⟨B, 18, none⟩ = some (.slice Ao2 os.length co2) := by rw [cell_blk hk2]; exact treeCells_sorted _ _ _ _ _ (by rw [List.length_set, cntK_length])
    have hor : bits BinOp.or .i64 (vAt bs p m * 2) (bitAt bs (p + m)) = vAt bs p (m + 1) := or_low _ _ hv.1 (by omega) hb
    have hu2 : upTo ls (m + 1 : Nat) 0 = upTo ls m ls.length * 2 := upTo_next ls m
    have hu3 := upTo_eq ls (m + 1 : Nat) (by omega) ls.length (Nat.le_refl _)
    have hV : vAt bs p (m + 1) = vAt bs p m * 2 + bitAt bs (p + m) := rfl
    have hfn := fewer_next ls (m + 1 : Nat) (by omega)
    have hel := eqUp_le ls (m + 1 : Nat) ls.length
    have hu4 := upTo_lt HC.out (m + 1) ls.length (by omega)
    have hnf := HF.out.2.2.2.2.2 (m + 1) (by omega)
    have hlo := low_step ls bs p (m + 1) (fun j h1 h2 => HF.out.2.2.2.2.2 j h1 (by omega)) (by omega)
    clear hk2 hc18 hcm hR2 hM2
    by_cases hlast : m + 1 = n
    · have hcode := HF.out.2.2.2.2.1
      obtain ⟨hp1, hp2⟩ := order_at HO.out (s := s) HF.out.2.2.1 (by have := HF.out.2.2.2.1; omega)
      rw [HF.out.2.2.2.1] at hp1 hp2
      have hus := upTo_code ls s
      rw [HF.out.2.2.2.1, upTo_eq ls n (by omega) s (by have := HF.out.2.2.1; omega)] at hus
      have hlt1 : eqUp ls n s < eqUp ls n ls.length := by
        have h1 := eqUp_mono ls n (show s + 1 ≤ ls.length from HF.out.2.2.1)
        rw [eqUp_hit ls n s HF.out.2.2.2.1] at h1; omega
      rw [← hlast] at hp1 hp2 hus hcode hlt1
      obtain ⟨ad, hA, hcell⟩ := ReadsInt.at_ r32 ((fewer ls (m + 1 : Nat) + eqUp ls (m + 1 : Nat) s : Nat) : Int) (by omega) (by omega)
      rw [hp2] at hcell
      rw [Int.toNat_natCast] at hcell
      have HRf := Lib.hid (show Rdr w2 g A bs (p + n) false from by rw [← hlast, ← Nat.add_assoc]; exact HR2.out)
      clear r32 hp2 hnf hlast
      subst hA
      generalize vAt bs p (m + 1) = V' at *
      generalize vAt bs p m = V at *
      generalize upTo ls m ls.length = U at *
      generalize upTo ls (m + 1 : Nat) ls.length = U2 at *
      generalize upTo ls (m + 1 : Nat) 0 = U3 at *
      generalize eqUp ls (m + 1 : Nat) ls.length = cn at *
      generalize eqUp ls (m + 1 : Nat) s = es at *
      generalize fewer ls (m + 1 : Nat) = fw at *
      generalize codeS ls s = cd at *
      generalize bitAt bs (p + m) = bt at *
      subst hV
      have hd : decide (V * 2 + bt - U * 2 < (cn : Int)) = true := by simp; omega
      have hix : (fw : Int) + (V * 2 + bt) - U * 2 = ((fw + es : Nat) : Int) := by omega
      have hix2 : (fw : Int) + (V * 2 + bt) - U * 2 < (os.length : Int) := by omega
      have hix3 : ((fw : Int) + (V * 2 + bt) - U * 2).toNat = fw + es := by omega
      go_wp2_with fail
      go_ret2
      refine ⟨rfl, HRf.out, HM2.out⟩
    · have hnf1 := hnf (by omega)
      generalize hgV' : vAt bs p (m + 1) = V' at *
      generalize vAt bs p m = V at *
      generalize upTo ls m ls.length = U at *
      generalize hgU2 : upTo ls (m + 1 : Nat) ls.length = U2 at *
      generalize upTo ls (m + 1 : Nat) 0 = U3 at *
      generalize eqUp ls (m + 1 : Nat) ls.length = cn at *
      generalize hgF : fewer ls (m + 1 : Nat) = fw at *
      generalize bitAt bs (p + m) = bt at *
      subst hV
      have hd : decide (V * 2 + bt - U * 2 < (cn : Int)) = false := by simp; omega
      have HG1 := Lib.hid hgV'; have HG2 := Lib.hid hgU2
      have HFN := Lib.hid (show fewer ls ((m + 1 + 1 : Nat) : Int) = fw + cn from hfn)
      have HE := Lib.hid (show U * 2 + (cn : Int) = U2 from by omega)
      clear hgV' hgU2 hgF hfn hnf r32 HF
      go_wp2_with fail
      go_roundw
      case rel => exact ⟨m + 1, by omega, by go_num, by rw [HFN.out]; go_num, by rw [HG2.out, ← HE.out], by rw [HG1.out], HR2.out, HM2.out⟩
      case measure => simp [intOf]; omega

set_option maxHeartbeats 1000000 in
theorem read_out (B hi g : Nat) (ls os : List Int) (A : Option Addr) (bs : List Int) (p n s : Nat) (w : World) (ht : IsTree w B hi ls os) (h1 : (oneS ls).2 = false) (h : Rdr w g A bs p false) (hg : hi ≤ g) (hf : Found ls bs p n s) (hp : 8 * bs.length < p + n) :
    Calls Tryd.prog 19 #[.pointer (some ⟨B, 0, none⟩), .pointer (some ⟨g, 0, none⟩)] w fun e w' => e = .returned (.tuple #[.int .i64 0, .int .i64 2]) ∧ Rdr w' g A bs (8 * bs.length) true ∧ Mods [g] w w' := by
  have H := Lib.hid h; have HT := Lib.hid ht; have HF := Lib.hid hf
  have hc19 : w.cell? ⟨B, 19, none⟩ = some (.bool false) := by
    obtain ⟨_, _, _, hc, ho, Al, cl, Ac, cc, Ao, co, hk, _⟩ := ht
    rw [cell_blk hk, ← h1]; exact treeCells_one _ _ _ _ _ (by rw [List.length_set, cntK_length])
  clear h ht hf h1
  go_enter Tryd.func19, Tryd.ntmps19
  go_wp2_with (go_at_call 30; refine (over_any g A bs p false w H.out).mono ?_; rintro e w' ⟨rfl, rfl⟩)
  go_loopw [6, 7, 8, 9, 10, 11] (fun a f v i b e wr => ∃ m : Nat, m < n ∧ p + m ≤ 8 * bs.length ∧ i = .int .i64 (m + 1 : Nat) ∧ a = .int .i64 (fewer ls (m + 1 : Nat) : Nat) ∧ f = .int .i64 (upTo ls m ls.length) ∧ v = .int .i64 (vAt bs p m) ∧ Hid (Rdr wr g A bs (p + m) false) ∧ Hid (Mods [g] w wr)) (fun _ _ _ i _ _ _ => 16 - (intOf i).toNat)
  case atStart => exact ⟨0, by have := HF.out.1; omega, by have := H.out.1; omega, rfl, by rw [show ((0 + 1 : Nat) : Int) = 1 from rfl, fewer_one]; rfl, by rw [show ((0 : Nat) : Int) = 0 from rfl, upTo_zero], rfl, H.out, Mods.refl _ _⟩
  case round =>
    obtain ⟨m, hm, hpm, rfl, rfl, rfl, rfl, HR, HM⟩ := hrel
    have hn15 := HF.out.2.1
    have ht := HT.out.mods HM.out (by simpa using hg)
    obtain ⟨_, _, hlb, hc, ho, Al, cl, Ac, cc, Ao, co, hk, r1, r2, r3, _, _, _⟩ := ht
    have hcm : wr.cell? ⟨B, 2 + (m + 1), none⟩ = some (.int .i64 (eqUp ls (m + 1 : Nat) ls.length : Nat)) := by
      rw [cell_blk hk]; refine treeCells_get _ _ _ _ _ (m + 1) _ ?_
      rw [List.getElem?_set_ne (by omega)]; exact cntK_get ls _ (m + 1) (by omega)
    have hc18 : wr.cell? ⟨B, 18, none⟩ = some (.slice Ao os.length co) := by rw [cell_blk hk]; exact treeCells_sorted _ _ _ _ _ (by rw [List.length_set, cntK_length])
    have hv := vAt_bounds bs p m
    have hpw : (2 : Int) ^ m ≤ 2 ^ 15 := by exact_mod_cast Nat.pow_le_pow_right (by decide) (by omega)
    have hu1 := upTo_lt hc m ls.length (by omega)
    have hu0 := upTo_nonneg ls m ls.length
    have hb := bitAt_bounds bs (p + m)
    have hfw := fewer_le ls (m + 1 : Nat)
    have hbv := Lib.hid (bitsVal_one bs (p + m))
    have HR3 := Lib.hid r3; have HO := Lib.hid ho; have HC := Lib.hid hc
    clear hk r1 r2 r3 ho hc
    by_cases hmore : p + m + 1 ≤ 8 * bs.length
    · go_wp2_with fail
      refine (bits_to (bitAt bs (p + m)) g A bs (p + m) 1 wr hbv (by omega) (by omega) (by omega) HR.out).mono ?_
      rintro e w2 ⟨rfl, hR2, hM2⟩
      have HR2 := Lib.hid hR2; have HM2 := Lib.hid (HM.out.trans hM2)
      have ht2 := HT.out.mods HM2.out (by simpa using hg)
      obtain ⟨_, _, _, _, _, Al2, cl2, Ac2, cc2, Ao2, co2, hk2, _, _, r32, _, _, _⟩ := ht2
      have hcm2 : w2.cell? ⟨B, 2 + (m + 1), none⟩ = some (.int .i64 (eqUp ls (m + 1 : Nat) ls.length : Nat)) := by
        rw [cell_blk hk2]; refine treeCells_get _ _ _ _ _ (m + 1) _ ?_
        rw [List.getElem?_set_ne (by omega)]; exact cntK_get ls _ (m + 1) (by omega)
      have hc182 : w2.cell? ⟨B, 18, none⟩ = some (.slice Ao2 os.length co2) := by rw [cell_blk hk2]; exact treeCells_sorted _ _ _ _ _ (by rw [List.length_set, cntK_length])
      have hor : bits BinOp.or .i64 (vAt bs p m * 2) (bitAt bs (p + m)) = vAt bs p (m + 1) := or_low _ _ hv.1 (by omega) hb
      have hu2 : upTo ls (m + 1 : Nat) 0 = upTo ls m ls.length * 2 := upTo_next ls m
      have hu3 := upTo_eq ls (m + 1 : Nat) (by omega) ls.length (Nat.le_refl _)
      have hV : vAt bs p (m + 1) = vAt bs p m * 2 + bitAt bs (p + m) := rfl
      have hfn := fewer_next ls (m + 1 : Nat) (by omega)
      have hel := eqUp_le ls (m + 1 : Nat) ls.length
      have hu4 := upTo_lt HC.out (m + 1) ls.length (by omega)
      have hnf := HF.out.2.2.2.2.2 (m + 1) (by omega)
      have hlo := low_step ls bs p (m + 1) (fun j h1 h2 => HF.out.2.2.2.2.2 j h1 (by omega)) (by omega)
      clear hk2 hc18 hcm hR2 hM2
      have hnf1 := hnf (by omega)
      generalize hgV' : vAt bs p (m + 1) = V' at *
      generalize vAt bs p m = V at *
      generalize upTo ls m ls.length = U at *
      generalize hgU2 : upTo ls (m + 1 : Nat) ls.length = U2 at *
      generalize upTo ls (m + 1 : Nat) 0 = U3 at *
      generalize eqUp ls (m + 1 : Nat) ls.length = cn at *
      generalize hgF : fewer ls (m + 1 : Nat) = fw at *
      generalize bitAt bs (p + m) = bt at *
      subst hV
      have hd : decide (V * 2 + bt - U * 2 < (cn : Int)) = false := by simp; omega
      have HG1 := Lib.hid hgV'; have HG2 := Lib.hid hgU2
      have HFN := Lib.hid (show fewer ls ((m + 1 + 1 : Nat) : Int) = fw + cn from hfn)
      have HE := Lib.hid (show U * 2 + (cn : Int) = U2 from by omega)
      clear hgV' hgU2 hgF hfn hnf r32 HF
      go_wp2_with fail
      go_roundw
      case rel => exact ⟨m + 1, by omega, by omega, by go_num, by rw [HFN.out]; go_num, by rw [HG2.out, ← HE.out], by rw [HG1.out], HR2.out, HM2.out⟩
      case measure => simp [intOf]; omega
    · go_wp2_with fail
      refine (bits_out g A bs (p + m) false 1 wr (.inr (by omega)) (by omega) (by omega) HR.out).mono ?_
      rintro e w2 ⟨rfl, hR2, hM2⟩
      have e8 : p + m = 8 * bs.length := by omega
      have HR2 := Lib.hid (show Rdr w2 g A bs (8 * bs.length) true from by rw [← e8]; exact hR2); have HM2 := Lib.hid (HM.out.trans hM2)
      clear hR2 hM2 e8
      go_wp2_with fail
      go_ret2
      exact ⟨rfl, HR2.out, HM2.out⟩

end Go.Proofs.YtfeloicmkcfinaaDoor
