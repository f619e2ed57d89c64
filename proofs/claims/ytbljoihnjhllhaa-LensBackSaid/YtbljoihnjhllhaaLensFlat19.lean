/- What package tree does: reading, cost. -/
import Derived.Test.YtbljoihnjhllhaaLensFlat18
import Derived.Test.YtbljoihnjhllhaaLensFlat5
namespace Go.Proofs.Ytbljoihnjhllhaa
open Go.RowKit
open Go.Proofs.YtbljoihnjhllhaaW.PrintWords
open Srt

theorem IsTree.below {w w' : World} {B hi : Nat} {ls os : List Int} (h : IsTree w B hi ls os) (hb : Below hi w w') : IsTree w' B hi ls os := by
  obtain ⟨h1, h2, h3, h4, h5, Al, cl, Ac, cc, Ao, co, hk, r1, r2, r3, b1, b2, b3⟩ := h
  have hr : ∀ {k : IntKind} {A : Option Addr} {n : Nat} {xs : List Int}, ReadsInt w k A n xs → (∀ ad, A = some ad → ad.block < hi) → ReadsInt w' k A n xs := by
    intro k A n xs hr hA
    refine ⟨hr.1, hr.2.1, fun hn => ?_⟩
    obtain ⟨ad, e, hc⟩ := hr.2.2 hn
    refine ⟨ad, e, fun j hj => ?_⟩
    rw [← hc j hj]
    refine hb.cell ?_
    have e2 := add_block ad j
    rw [e2]; exact hA ad e
  exact ⟨h1, by have := hb.size; omega, h3, h4, h5, Al, cl, Ac, cc, Ao, co, (hb.block B h1).trans hk, hr r1 b1, hr r2 b2, hr r3 b3, b1, b2, b3⟩
theorem IsTree.mods {S : List Nat} {w w' : World} {B hi : Nat} {ls os : List Int} (h : IsTree w B hi ls os) (hm : Mods S w w') (hs : ∀ s ∈ S, hi ≤ s) : IsTree w' B hi ls os :=
  h.below ⟨hm.os, hm.tape, hm.output, hm.size, fun k hk => hm.block k (by have := h.2.1; omega) (fun hc => by have := hs k hc; omega)⟩
theorem IsTree.up {w : World} {B hi hi' : Nat} {ls os : List Int} (h : IsTree w B hi ls os) (h1 : hi ≤ hi') (h2 : hi' ≤ w.heap.size) : IsTree w B hi' ls os := by
  obtain ⟨a, b, c, d, e, Al, cl, Ac, cc, Ao, co, hk, r1, r2, r3, l1, l2, l3⟩ := h
  exact ⟨by omega, h2, c, d, e, Al, cl, Ac, cc, Ao, co, hk, r1, r2, r3, fun ad h => by have := l1 ad h; omega, fun ad h => by have := l2 ad h; omega, fun ad h => by have := l3 ad h; omega⟩
theorem IsTree.keep {S : List Nat} {w w' : World} {B lo hi : Nat} {ls os : List Int} (h : IsTree w B hi ls os) (ha : Above w B lo) (hm : Mods S w w') (hs : ∀ s ∈ S, s < lo ∨ hi ≤ s) : IsTree w' B hi ls os ∧ Above w' B lo := by
  obtain ⟨a, b, c, d, e, Al, cl, Ac, cc, Ao, co, hk, r1, r2, r3, l1, l2, l3⟩ := h
  obtain ⟨hB, hA⟩ := ha
  have hBS : B ∉ S := fun hm' => by have := hs B hm'; omega
  have b1 : ∀ ad, Al = some ad → lo ≤ ad.block := fun ad e => hA 0 ad ls.length cl (by rw [cell_blk hk, e]; rfl)
  have b2 : ∀ ad, Ac = some ad → lo ≤ ad.block := fun ad e => hA 1 ad ls.length cc (by rw [cell_blk hk, e]; rfl)
  have b3 : ∀ ad, Ao = some ad → lo ≤ ad.block := fun ad e => hA 18 ad os.length co (by
    rw [cell_blk hk, e]; exact treeCells_sorted _ _ _ _ _ (by rw [List.length_set, cntK_length]))
  have hk' := hm.blk hk hBS
  refine ⟨⟨a, Nat.le_trans b hm.size, c, d, e, Al, cl, Ac, cc, Ao, co, hk', ReadsInt.mods r1 hm (fun ad e hx => ?_), ReadsInt.mods r2 hm (fun ad e hx => ?_), ReadsInt.mods r3 hm (fun ad e hx => ?_), l1, l2, l3⟩, above_cells hk' hB b1 b2 b3⟩
  · have h1 := hs _ hx; have h2 := l1 ad e; have h3 := b1 ad e; omega
  · have h1 := hs _ hx; have h2 := l2 ad e; have h3 := b2 ad e; omega
  · have h1 := hs _ hx; have h2 := l3 ad e; have h3 := b3 ad e; omega
theorem IsTree.drewN {w : World} {B hi : Nat} {ls os : List Int} (h : IsTree w B hi ls os) (n : Nat) : IsTree (w.drewN n) B hi ls os := h.below (pw_below_drewN (Below.refl _ _) n)

theorem or_low (v b : Int) (h0 : 0 ≤ v) (h1 : v < 4611686018427387904) (hb : 0 ≤ b ∧ b ≤ 1) : bits BinOp.or .i64 (v * 2) b = v * 2 + b := by
  obtain ⟨a, rfl⟩ := Int.eq_ofNat_of_zero_le h0
  obtain ⟨c, rfl⟩ := Int.eq_ofNat_of_zero_le hb.1
  have hc : (a : Int) * 2 = ((a * 2 : Nat) : Int) := by simp
  rw [hc]
  have h2 := (bits_nat .i64 63 (by decide) (fun n h0 h1 => IntWalk.i64_in n (by omega)) (a * 2) c (by omega) (by omega)).2
  rw [h2, Nat.or_comm, show a * 2 = a <<< 1 from by rw [Nat.shiftLeft_eq], or_shift c a 1 (by omega)]
  simp [Nat.shiftLeft_eq]; omega
theorem one_order {ls os : List Int} (hc : checkS ls = 0) (h : InOrder ls os) (h1 : (oneS ls).2 = true) : 0 < os.length ∧ rd os 0 = (oneS ls).1 := by
  have hm := (one_many (fun t => ((complete hc).1 t).1)).1 h1
  have hn := nonzero_many (ls := ls) (fun t => ((complete hc).1 t).1)
  rw [hm] at hn
  obtain ⟨i, hi⟩ := List.length_eq_one_iff.1 hn
  have e1 : oneS ls = ((i : Int), true) := by unfold oneS; rw [hi]; rfl
  have e2 : posList ls = [(i : Int)] := by
    unfold posList posUp
    have : (List.range ls.length).filter (fun t => decide (0 < ln ls t)) = nonzero ls := by
      unfold nonzero
      apply List.filter_congr
      intro t _
      have := ((complete hc).1 t).1
      by_cases e : ln ls t = 0
      · simp [e]
      · have h2 : 0 < ln ls t := by omega
        simp [e, h2]
    rw [this, hi]; rfl
  have hp := FEq.perm h.2
  rw [e2] at hp
  have e3 : os = [(i : Int)] := List.perm_singleton.1 hp.symm
  rw [e3, e1]
  exact ⟨by simp, rfl⟩

set_option maxHeartbeats 400000 in
theorem read_nil (g : Nat) (w : World) :
    Calls Try.prog 44 #[.pointer none, .pointer (some ⟨g, 0, none⟩)] w fun e w' => e = .returned (.tuple #[.int .i64 0, .int .i64 1]) ∧ w = w' := by
  go_enter Try.func44, Try.ntmps44
  go_wp2
  go_ret2
  exact ⟨rfl, rfl⟩
set_option maxHeartbeats 400000 in
theorem read_over (B g : Nat) (A : Option Addr) (bs : List Int) (p : Nat) (w : World) (h : Rdr w g A bs p true) :
    Calls Try.prog 44 #[.pointer (some ⟨B, 0, none⟩), .pointer (some ⟨g, 0, none⟩)] w fun e w' => e = .returned (.tuple #[.int .i64 0, .int .i64 2]) ∧ w = w' := by
  have H := Lib.hid h; clear h
  go_enter Try.func44, Try.ntmps44
  go_wp2_with (go_at_call 56; refine (over_any g A bs p true w H.out).mono ?_; rintro e w' ⟨rfl, rfl⟩)
  go_ret2
  exact ⟨rfl, rfl⟩
set_option maxHeartbeats 1000000 in
theorem read_one (B hi g : Nat) (ls os : List Int) (A : Option Addr) (bs : List Int) (p : Nat) (w : World) (ht : IsTree w B hi ls os) (h1 : (oneS ls).2 = true) (h : Rdr w g A bs p false) :
    Calls Try.prog 44 #[.pointer (some ⟨B, 0, none⟩), .pointer (some ⟨g, 0, none⟩)] w fun e w' => e = .returned (.tuple #[.int .i64 (oneS ls).1, .int .i64 0]) ∧ w = w' := by
  have H := Lib.hid h; clear h
  obtain ⟨_, _, _, hc, ho, Al, cl, Ac, cc, Ao, co, hk, r1, r2, r3, _, _, _⟩ := ht
  obtain ⟨h0, hx⟩ := one_order hc ho h1
  have hc19 : w.cell? ⟨B, 19, none⟩ = some (.bool true) := by rw [cell_blk hk, ← h1]; exact treeCells_one _ _ _ _ _ (by rw [List.length_set, cntK_length])
  have hc18 : w.cell? ⟨B, 18, none⟩ = some (.slice Ao os.length co) := by rw [cell_blk hk]; exact treeCells_sorted _ _ _ _ _ (by rw [List.length_set, cntK_length])
  obtain ⟨ad, rfl, hcell⟩ := ReadsInt.at_ r3 0 (by omega) (by omega)
  have hcell' : w.cell? ad = some (.int .i64 (oneS ls).1) := by rw [← hx]; exact hcell
  generalize (oneS ls).1 = x at *
  have hol : (0 : Int) < (os.length : Int) := by omega
  clear hk r1 r2 r3 hcell hc ho hx h1
  go_enter Try.func44, Try.ntmps44
  go_wp2_with (go_at_call 56; refine (over_any g A bs p false w H.out).mono ?_; rintro e w' ⟨rfl, rfl⟩)
  go_ret2
  exact ⟨rfl, rfl⟩

set_option maxHeartbeats 1000000 in
theorem read_in_k (B hi g : Nat) (ls os : List Int) (A : Option Addr) (bs : List Int) (p n s : Nat) (w : World) (ht : IsTree w B hi ls os) (h1 : (oneS ls).2 = false) (h : Rdr w g A bs p false) (hg : ∀ w', Mods [g] w w' → IsTree w' B hi ls os) (hf : Found ls bs p n s) (hp : p + n ≤ 8 * bs.length) :
    Calls Try.prog 44 #[.pointer (some ⟨B, 0, none⟩), .pointer (some ⟨g, 0, none⟩)] w fun e w' => e = .returned (.tuple #[.int .i64 s, .int .i64 0]) ∧ Rdr w' g A bs (p + n) false ∧ Mods [g] w w' := by
  have H := Lib.hid h; have HT := Lib.hid hg; have HF := Lib.hid hf
  have hc19 : w.cell? ⟨B, 19, none⟩ = some (.bool false) := by
    obtain ⟨_, _, _, hc, ho, Al, cl, Ac, cc, Ao, co, hk, _⟩ := ht
    rw [cell_blk hk, ← h1]; exact treeCells_one _ _ _ _ _ (by rw [List.length_set, cntK_length])
  clear h ht hf h1 hg
  go_enter Try.func44, Try.ntmps44
  go_wp2_with (go_at_call 56; refine (over_any g A bs p false w H.out).mono ?_; rintro e w' ⟨rfl, rfl⟩)
  go_loopw [6, 7, 8, 9, 10, 11] (fun a f v i b e wr => ∃ m : Nat, m < n ∧ i = .int .i64 (m + 1 : Nat) ∧ a = .int .i64 (fewer ls (m + 1 : Nat) : Nat) ∧ f = .int .i64 (upTo ls m ls.length) ∧ v = .int .i64 (vAt bs p m) ∧ Hid (Rdr wr g A bs (p + m) false) ∧ Hid (Mods [g] w wr)) (fun _ _ _ i _ _ _ => 16 - (intOf i).toNat)
  case atStart => exact ⟨0, by have := HF.out.1; omega, rfl, by rw [show ((0 + 1 : Nat) : Int) = 1 from rfl, fewer_one]; rfl, by rw [show ((0 : Nat) : Int) = 0 from rfl, upTo_zero], rfl, H.out, Mods.refl _ _⟩
  case round =>
    obtain ⟨m, hm, rfl, rfl, rfl, rfl, HR, HM⟩ := hrel
    have hn15 := HF.out.2.1
    have ht := HT.out _ HM.out
    obtain ⟨_, _, hlb, hc, ho, Al, cl, Ac, cc, Ao, co, hk, r1, r2, r3, _, _, _⟩ := ht
    have hcm : wr.cell? ⟨B, 2 + (m + 1), none⟩ = some (.int .i64 (eqUp ls (m + 1 : Nat) ls.length : Nat)) := by
      rw [cell_blk hk]; refine treeCells_get _ _ _ _ _ (m + 1) _ ?_
      rw [List.getElem?_set_ne (by omega)]; exact cntK_get ls _ (m + 1) (by omega)
    have hc18 : wr.cell? ⟨B, 18, none⟩ = some (.slice Ao os.length co) := by rw [cell_blk hk]; exact treeCells_sorted _ _ _ _ _ (by rw [List.length_set, cntK_length])
    have hv := vAt_bounds bs p m
    have hpw : (2 : Int) ^ m ≤ 2 ^ 15 := by exact_mod_cast Nat.pow_le_pow_right (by decide) (by omega)
    have hu1 := upTo_lt hc m ls.length (by omega)
    have hu0 := upTo_nonneg ls m ls.length
    have hb := bitAt_bounds bs (p + m)
    have hfw := fewer_le ls (m + 1 : Nat)
    have hbv := Lib.hid (bitsVal_one bs (p + m))
    have HR3 := Lib.hid r3; have HO := Lib.hid ho; have HC := Lib.hid hc
    clear hk r1 r2 r3 ho hc
    go_wp2_with fail
    refine (bits_to (bitAt bs (p + m)) g A bs (p + m) 1 wr hbv (by omega) (by omega) (by omega) HR.out).mono ?_
    rintro e w2 ⟨rfl, hR2, hM2⟩
    have HR2 := Lib.hid hR2; have HM2 := Lib.hid (HM.out.trans hM2)
    have ht2 := HT.out _ HM2.out
    obtain ⟨_, _, _, _, _, Al2, cl2, Ac2, cc2, Ao2, co2, hk2, _, _, r32, _, _, _⟩ := ht2
    have hcm2 : w2.cell? ⟨B, 2 + (m + 1), none⟩ = some (.int .i64 (eqUp ls (m + 1 : Nat) ls.length : Nat)) := by
      rw [cell_blk hk2]; refine treeCells_get _ _ _ _ _ (m + 1) _ ?_
      rw [List.getElem?_set_ne (by omega)]; exact cntK_get ls _ (m + 1) (by omega)
    have hc182 : w2.cell? ⟨B, 18, none⟩ = some (.slice Ao2 os.length co2) := by rw [cell_blk hk2]; exact treeCells_sorted _ _ _ _ _ (by rw [List.length_set, cntK_length])
    have hor : bits BinOp.or .i64 (vAt bs p m * 2) (bitAt bs (p + m)) = vAt bs p (m + 1) := or_low _ _ hv.1 (by omega) hb
    have hu2 : upTo ls (m + 1 : Nat) 0 = upTo ls m ls.length * 2 := upTo_next ls m
    have hu3 := upTo_eq ls (m + 1 : Nat) (by omega) ls.length (Nat.le_refl _)
    have hV : vAt bs p (m + 1) = vAt bs p m * 2 + bitAt bs (p + m) := rfl
    have hfn := fewer_next ls (m + 1 : Nat) (by omega)
    have hel := eqUp_le ls (m + 1 : Nat) ls.length
    have hu4 := upTo_lt HC.out (m + 1) ls.length (by omega)
    have hnf := HF.out.2.2.2.2.2 (m + 1) (by omega)
    have hlo := low_step ls bs p (m + 1) (fun j h1 h2 => HF.out.2.2.2.2.2 j h1 (by omega)) (by omega)
    clear hk2 hc18 hcm hR2 hM2
    by_cases hlast : m + 1 = n
    · have hcode := HF.out.2.2.2.2.1
      obtain ⟨hp1, hp2⟩ := order_at HO.out (s := s) HF.out.2.2.1 (by have := HF.out.2.2.2.1; omega)
      rw [HF.out.2.2.2.1] at hp1 hp2
      have hus := upTo_code ls s
      rw [HF.out.2.2.2.1, upTo_eq ls n (by omega) s (by have := HF.out.2.2.1; omega)] at hus
      have hlt1 : eqUp ls n s < eqUp ls n ls.length := by
        have h1 := eqUp_mono ls n (show s + 1 ≤ ls.length from HF.out.2.2.1)
        rw [eqUp_hit ls n s HF.out.2.2.2.1] at h1; omega
      rw [← hlast] at hp1 hp2 hus hcode hlt1
      obtain ⟨ad, hA, hcell⟩ := ReadsInt.at_ r32 ((fewer ls (m + 1 : Nat) + eqUp ls (m + 1 : Nat) s : Nat) : Int) (by omega) (by omega)
      rw [hp2] at hcell
      rw [Int.toNat_natCast] at hcell
      have HRf := Lib.hid (show Rdr w2 g A bs (p + n) false from by rw [← hlast, ← Nat.add_assoc]; exact HR2.out)
      clear r32 hp2 hnf hlast
      subst hA
      generalize vAt bs p (m + 1) = V' at *
      generalize vAt bs p m = V at *
      generalize upTo ls m ls.length = U at *
      generalize upTo ls (m + 1 : Nat) ls.length = U2 at *
      generalize upTo ls (m + 1 : Nat) 0 = U3 at *
      generalize eqUp ls (m + 1 : Nat) ls.length = cn at *
      generalize eqUp ls (m + 1 : Nat) s = es at *
      generalize fewer ls (m + 1 : Nat) = fw at *
      generalize codeS ls s = cd at *
      generalize bitAt bs (p + m) = bt at *
      subst hV
      have hd : decide (V * 2 + bt - U * 2 < (cn : Int)) = true := by simp; omega
      have hix : (fw : Int) + (V * 2 + bt) - U * 2 = ((fw + es : Nat) : Int) := by omega
      have hix2 : (fw : Int) + (V * 2 + bt) - U * 2 < (os.length : Int) := by omega
      have hix3 : ((fw : Int) + (V * 2 + bt) - U * 2).toNat = fw + es := by omega
      go_wp2_with fail
      go_ret2
      refine ⟨rfl, HRf.out, HM2.out⟩
    · have hnf1 := hnf (by omega)
      generalize hgV' : vAt bs p (m + 1) = V' at *
      generalize vAt bs p m = V at *
      generalize upTo ls m ls.length = U at *
      generalize hgU2 : upTo ls (m + 1 : Nat) ls.length = U2 at *
      generalize upTo ls (m + 1 : Nat) 0 = U3 at *
      generalize eqUp ls (m + 1 : Nat) ls.length = cn at *
      generalize hgF : fewer ls (m + 1 : Nat) = fw at *
      generalize bitAt bs (p + m) = bt at *
      subst hV
      have hd : decide (V * 2 + bt - U * 2 < (cn : Int)) = false := by simp; omega
      have HG1 := Lib.hid hgV'; have HG2 := Lib.hid hgU2
      have HFN := Lib.hid (show fewer ls ((m + 1 + 1 : Nat) : Int) = fw + cn from hfn)
      have HE := Lib.hid (show U * 2 + (cn : Int) = U2 from by omega)
      clear hgV' hgU2 hgF hfn hnf r32 HF
      go_wp2_with fail
      go_roundw
      case rel => exact ⟨m + 1, by omega, by go_num, by rw [HFN.out]; go_num, by rw [HG2.out, ← HE.out], by rw [HG1.out], HR2.out, HM2.out⟩
      case measure => simp [intOf]; omega

theorem read_in (B hi g : Nat) (ls os : List Int) (A : Option Addr) (bs : List Int) (p n s : Nat) (w : World) (ht : IsTree w B hi ls os) (h1 : (oneS ls).2 = false) (h : Rdr w g A bs p false) (hg : hi ≤ g) (hf : Found ls bs p n s) (hp : p + n ≤ 8 * bs.length) :
    Calls Try.prog 44 #[.pointer (some ⟨B, 0, none⟩), .pointer (some ⟨g, 0, none⟩)] w fun e w' => e = .returned (.tuple #[.int .i64 s, .int .i64 0]) ∧ Rdr w' g A bs (p + n) false ∧ Mods [g] w w' :=
  read_in_k B hi g ls os A bs p n s w ht h1 h (fun _ hm => ht.mods hm (by simpa using hg)) hf hp

set_option maxHeartbeats 1000000 in
theorem read_out_k (B hi g : Nat) (ls os : List Int) (A : Option Addr) (bs : List Int) (p n s : Nat) (w : World) (ht : IsTree w B hi ls os) (h1 : (oneS ls).2 = false) (h : Rdr w g A bs p false) (hg : ∀ w', Mods [g] w w' → IsTree w' B hi ls os) (hf : Found ls bs p n s) (hp : 8 * bs.length < p + n) :
    Calls Try.prog 44 #[.pointer (some ⟨B, 0, none⟩), .pointer (some ⟨g, 0, none⟩)] w fun e w' => e = .returned (.tuple #[.int .i64 0, .int .i64 2]) ∧ Rdr w' g A bs (8 * bs.length) true ∧ Mods [g] w w' := by
  have H := Lib.hid h; have HT := Lib.hid hg; have HF := Lib.hid hf
  have hc19 : w.cell? ⟨B, 19, none⟩ = some (.bool false) := by
    obtain ⟨_, _, _, hc, ho, Al, cl, Ac, cc, Ao, co, hk, _⟩ := ht
    rw [cell_blk hk, ← h1]; exact treeCells_one _ _ _ _ _ (by rw [List.length_set, cntK_length])
  clear h ht hf h1 hg
  go_enter Try.func44, Try.ntmps44
  go_wp2_with (go_at_call 56; refine (over_any g A bs p false w H.out).mono ?_; rintro e w' ⟨rfl, rfl⟩)
  go_loopw [6, 7, 8, 9, 10, 11] (fun a f v i b e wr => ∃ m : Nat, m < n ∧ p + m ≤ 8 * bs.length ∧ i = .int .i64 (m + 1 : Nat) ∧ a = .int .i64 (fewer ls (m + 1 : Nat) : Nat) ∧ f = .int .i64 (upTo ls m ls.length) ∧ v = .int .i64 (vAt bs p m) ∧ Hid (Rdr wr g A bs (p + m) false) ∧ Hid (Mods [g] w wr)) (fun _ _ _ i _ _ _ => 16 - (intOf i).toNat)
  case atStart => exact ⟨0, by have := HF.out.1; omega, by have := H.out.1; omega, rfl, by rw [show ((0 + 1 : Nat) : Int) = 1 from rfl, fewer_one]; rfl, by rw [show ((0 : Nat) : Int) = 0 from rfl, upTo_zero], rfl, H.out, Mods.refl _ _⟩
  case round =>
    obtain ⟨m, hm, hpm, rfl, rfl, rfl, rfl, HR, HM⟩ := hrel
    have hn15 := HF.out.2.1
    have ht := HT.out _ HM.out
    obtain ⟨_, _, hlb, hc, ho, Al, cl, Ac, cc, Ao, co, hk, r1, r2, r3, _, _, _⟩ := ht
    have hcm : wr.cell? ⟨B, 2 + (m + 1), none⟩ = some (.int .i64 (eqUp ls (m + 1 : Nat) ls.length : Nat)) := by
      rw [cell_blk hk]; refine treeCells_get _ _ _ _ _ (m + 1) _ ?_
      rw [List.getElem?_set_ne (by omega)]; exact cntK_get ls _ (m + 1) (by omega)
    have hc18 : wr.cell? ⟨B, 18, none⟩ = some (.slice Ao os.length co) := by rw [cell_blk hk]; exact treeCells_sorted _ _ _ _ _ (by rw [List.length_set, cntK_length])
    have hv := vAt_bounds bs p m
    have hpw : (2 : Int) ^ m ≤ 2 ^ 15 := by exact_mod_cast Nat.pow_le_pow_right (by decide) (by omega)
    have hu1 := upTo_lt hc m ls.length (by omega)
    have hu0 := upTo_nonneg ls m ls.length
    have hb := bitAt_bounds bs (p + m)
    have hfw := fewer_le ls (m + 1 : Nat)
    have hbv := Lib.hid (bitsVal_one bs (p + m))
    have HR3 := Lib.hid r3; have HO := Lib.hid ho; have HC := Lib.hid hc
    clear hk r1 r2 r3 ho hc
    by_cases hmore : p + m + 1 ≤ 8 * bs.length
    · go_wp2_with fail
      refine (bits_to (bitAt bs (p + m)) g A bs (p + m) 1 wr hbv (by omega) (by omega) (by omega) HR.out).mono ?_
      rintro e w2 ⟨rfl, hR2, hM2⟩
      have HR2 := Lib.hid hR2; have HM2 := Lib.hid (HM.out.trans hM2)
      have ht2 := HT.out _ HM2.out
      obtain ⟨_, _, _, _, _, Al2, cl2, Ac2, cc2, Ao2, co2, hk2, _, _, r32, _, _, _⟩ := ht2
      have hcm2 : w2.cell? ⟨B, 2 + (m + 1), none⟩ = some (.int .i64 (eqUp ls (m + 1 : Nat) ls.length : Nat)) := by
        rw [cell_blk hk2]; refine treeCells_get _ _ _ _ _ (m + 1) _ ?_
        rw [List.getElem?_set_ne (by omega)]; exact cntK_get ls _ (m + 1) (by omega)
      have hc182 : w2.cell? ⟨B, 18, none⟩ = some (.slice Ao2 os.length co2) := by rw [cell_blk hk2]; exact treeCells_sorted _ _ _ _ _ (by rw [List.length_set, cntK_length])
      have hor : bits BinOp.or .i64 (vAt bs p m * 2) (bitAt bs (p + m)) = vAt bs p (m + 1) := or_low _ _ hv.1 (by omega) hb
      have hu2 : upTo ls (m + 1 : Nat) 0 = upTo ls m ls.length * 2 := upTo_next ls m
      have hu3 := upTo_eq ls (m + 1 : Nat) (by omega) ls.length (Nat.le_refl _)
      have hV : vAt bs p (m + 1) = vAt bs p m * 2 + bitAt bs (p + m) := rfl
      have hfn := fewer_next ls (m + 1 : Nat) (by omega)
      have hel := eqUp_le ls (m + 1 : Nat) ls.length
      have hu4 := upTo_lt HC.out (m + 1) ls.length (by omega)
      have hnf := HF.out.2.2.2.2.2 (m + 1) (by omega)
      have hlo := low_step ls bs p (m + 1) (fun j h1 h2 => HF.out.2.2.2.2.2 j h1 (by omega)) (by omega)
      clear hk2 hc18 hcm hR2 hM2
      have hnf1 := hnf (by omega)
      generalize hgV' : vAt bs p (m + 1) = V' at *
      generalize vAt bs p m = V at *
      generalize upTo ls m ls.length = U at *
      generalize hgU2 : upTo ls (m + 1 : Nat) ls.length = U2 at *
      generalize upTo ls (m + 1 : Nat) 0 = U3 at *
      generalize eqUp ls (m + 1 : Nat) ls.length = cn at *
      generalize hgF : fewer ls (m + 1 : Nat) = fw at *
      generalize bitAt bs (p + m) = bt at *
      subst hV
      have hd : decide (V * 2 + bt - U * 2 < (cn : Int)) = false := by simp; omega
      have HG1 := Lib.hid hgV'; have HG2 := Lib.hid hgU2
      have HFN := Lib.hid (show fewer ls ((m + 1 + 1 : Nat) : Int) = fw + cn from hfn)
      have HE := Lib.hid (show U * 2 + (cn : Int) = U2 from by omega)
      clear hgV' hgU2 hgF hfn hnf r32 HF
      go_wp2_with fail
      go_roundw
      case rel => exact ⟨m + 1, by omega, by omega, by go_num, by rw [HFN.out]; go_num, by rw [HG2.out, ← HE.out], by rw [HG1.out], HR2.out, HM2.out⟩
      case measure => simp [intOf]; omega
    · go_wp2_with fail
      refine (bits_out g A bs (p + m) false 1 wr (.inr (by omega)) (by omega) (by omega) HR.out).mono ?_
      rintro e w2 ⟨rfl, hR2, hM2⟩
      have e8 : p + m = 8 * bs.length := by omega
      have HR2 := Lib.hid (show Rdr w2 g A bs (8 * bs.length) true from by rw [← e8]; exact hR2); have HM2 := Lib.hid (HM.out.trans hM2)
      clear hR2 hM2 e8
      go_wp2_with fail
      go_ret2
      exact ⟨rfl, HR2.out, HM2.out⟩
theorem read_out (B hi g : Nat) (ls os : List Int) (A : Option Addr) (bs : List Int) (p n s : Nat) (w : World) (ht : IsTree w B hi ls os) (h1 : (oneS ls).2 = false) (h : Rdr w g A bs p false) (hg : hi ≤ g) (hf : Found ls bs p n s) (hp : 8 * bs.length < p + n) :
    Calls Try.prog 44 #[.pointer (some ⟨B, 0, none⟩), .pointer (some ⟨g, 0, none⟩)] w fun e w' => e = .returned (.tuple #[.int .i64 0, .int .i64 2]) ∧ Rdr w' g A bs (8 * bs.length) true ∧ Mods [g] w w' :=
  read_out_k B hi g ls os A bs p n s w ht h1 h (fun _ hm => ht.mods hm (by simpa using hg)) hf hp
end Go.Proofs.Ytbljoihnjhllhaa

/- What package tree does: cost. -/
namespace Go.Proofs.Ytbljoihnjhllhaa
open Go.RowKit
open Go.Proofs.YtbljoihnjhllhaaW.PrintWords
open Srt

def hasS (ls : List Int) (s : Int) : Bool := decide (0 ≤ s) && decide (s < ls.length) && decide (0 < ln ls s.toNat)
def costS (ls : List Int) (s : Int) : Int := if hasS ls s then (if (oneS ls).2 then 0 else ln ls s.toNat) else 0

set_option maxHeartbeats 400000 in
theorem cost_nil (s : Int) (w : World) :
    Calls Try.prog 54 #[.pointer none, .int .i64 s] w fun e w' => e = .returned (.tuple #[.int .i64 0, .bool false]) ∧ w = w' := by
  go_enter Try.func54, Try.ntmps54
  go_wp2
  go_ret2
  exact ⟨rfl, rfl⟩
set_option maxHeartbeats 1000000 in
theorem cost_any (B hi : Nat) (ls os : List Int) (s : Int) (w : World) (ht : IsTree w B hi ls os) :
    Calls Try.prog 54 #[.pointer (some ⟨B, 0, none⟩), .int .i64 s] w fun e w' => e = .returned (.tuple #[.int .i64 (costS ls s), .bool (hasS ls s)]) ∧ w = w' := by
  obtain ⟨_, _, hlb, hc, ho, Al, cl, Ac, cc, Ao, co, hk, r1, r2, r3, _, _, _⟩ := ht
  have hc19 : w.cell? ⟨B, 19, none⟩ = some (.bool (oneS ls).2) := by rw [cell_blk hk]; exact treeCells_one _ _ _ _ _ (by rw [List.length_set, cntK_length])
  have hc0 : w.cell? ⟨B, 0, none⟩ = some (.slice Al ls.length cl) := by rw [cell_blk hk]; rfl
  have HR := Lib.hid r1; have HC := Lib.hid hc
  clear hk r1 r2 r3 hc ho
  by_cases h0 : s < 0
  · have e1 : hasS ls s = false := by simp [hasS]; omega
    have e2 : costS ls s = 0 := by unfold costS; rw [e1]; rfl
    rw [e1, e2]
    have hd : decide (s < 0) = true := by simp [h0]
    clear e1 e2
    go_enter Try.func54, Try.ntmps54
    go_wp2
    go_ret2
    exact ⟨rfl, rfl⟩
  · by_cases h1 : s < (ls.length : Int)
    · obtain ⟨k, rfl⟩ := Int.eq_ofNat_of_zero_le (show 0 ≤ s by omega)
      obtain ⟨ad, hA, hcell⟩ := ReadsInt.at_ HR.out (k : Int) (by omega) h1
      rw [Int.toNat_natCast, rd_ln] at hcell
      subst hA
      obtain ⟨hl0, hl1⟩ := (complete HC.out).1 k
      have hkt : ((k : Int)).toNat = k := by omega
      by_cases h2 : ln ls k = 0
      · have e1 : hasS ls (k : Int) = false := by unfold hasS; rw [Int.toNat_natCast]; simp; omega
        have e2 : costS ls (k : Int) = 0 := by unfold costS; rw [e1]; rfl
        rw [e1, e2]
        have hb : (ln ls k == 0) = true := by simp [h2]
        clear e1 e2 h2
        go_enter Try.func54, Try.ntmps54
        go_wp2
        go_ret2
        exact ⟨rfl, rfl⟩
      · have e1 : hasS ls (k : Int) = true := by unfold hasS; rw [Int.toNat_natCast]; simp; omega
        have e2 : costS ls (k : Int) = if (oneS ls).2 then 0 else ln ls k := by unfold costS; rw [e1, Int.toNat_natCast]; rfl
        rw [e1, e2]
        have hb : (ln ls k == 0) = false := by simp [h2]
        clear e1 e2 h2
        generalize (oneS ls).2 = y at *
        cases y
        · go_enter Try.func54, Try.ntmps54
          go_wp2
          go_ret2
          exact ⟨rfl, rfl⟩
        · go_enter Try.func54, Try.ntmps54
          go_wp2
          go_ret2
          exact ⟨rfl, rfl⟩
    · have e1 : hasS ls s = false := by simp [hasS]; omega
      have e2 : costS ls s = 0 := by unfold costS; rw [e1]; rfl
      rw [e1, e2]
      have hd : decide (s < 0) = false := by simp; omega
      have hd2 : decide ((ls.length : Int) ≤ s) = true := by simp; omega
      clear e1 e2
      go_enter Try.func54, Try.ntmps54
      go_wp2
      go_ret2
      exact ⟨rfl, rfl⟩
end Go.Proofs.Ytbljoihnjhllhaa

/- What package tree does: writing. -/
namespace Go.Proofs.Ytbljoihnjhllhaa
open Go.RowKit
open Go.Proofs.YtbljoihnjhllhaaW.PrintWords
open Srt

/-- A code's n bits, the first one highest. -/
def codeBits (v : Int) (n : Nat) : List Int := (List.range n).map (fun k => v / 2 ^ (n - 1 - k) % 2)
def codeUp (v : Int) (n j : Nat) : List Int := (List.range j).map (fun k => v / 2 ^ (n - 1 - k) % 2)
theorem codeUp_succ (v : Int) (n j : Nat) : codeUp v n (j + 1) = codeUp v n j ++ [v / 2 ^ (n - 1 - j) % 2] := by simp [codeUp, List.range_succ]
theorem codeUp_length (v : Int) (n j : Nat) : (codeUp v n j).length = j := by simp [codeUp]
theorem bitsOf_one (x : Int) (h : 0 ≤ x ∧ x ≤ 1) : bitsOf x 1 = [x] := by
  show [x / 2 ^ 0 % 2] = [x]
  congr 1
  omega

set_option maxHeartbeats 400000 in
theorem write_nil (g : Nat) (s : Int) (w : World) :
    Calls Try.prog 38 #[.pointer none, .pointer (some ⟨g, 0, none⟩), .int .i64 s] w fun e w' => e = .returned (.bool false) ∧ w = w' := by
  go_enter Try.func38, Try.ntmps38
  go_wp2_with (go_at_call 54; refine (cost_nil s w).mono ?_; rintro e w' ⟨rfl, rfl⟩)
  go_ret
  exact ⟨rfl, rfl⟩
set_option maxHeartbeats 400000 in
theorem write_not (B hi g : Nat) (ls os : List Int) (s : Int) (w : World) (ht : IsTree w B hi ls os) (hs : hasS ls s = false) :
    Calls Try.prog 38 #[.pointer (some ⟨B, 0, none⟩), .pointer (some ⟨g, 0, none⟩), .int .i64 s] w fun e w' => e = .returned (.bool false) ∧ w = w' := by
  have HT := Lib.hid ht; have HS := Lib.hid hs
  clear ht hs
  go_enter Try.func38, Try.ntmps38
  go_wp2_with (go_at_call 54; refine (cost_any B hi ls os s w HT.out).mono ?_; rintro e w' ⟨rfl, rfl⟩; rw [HS.out])
  go_ret
  exact ⟨rfl, rfl⟩
theorem w_bit (g : Nat) (v : Value) (l : List Int) (x : Int) (w : World) (h : Wtr w g v l) (hx : 0 ≤ x ∧ x ≤ 1) (hl : l.length + 1 ≤ 140737488351232) :
    Calls Try.prog 10 #[.pointer (some ⟨g, 0, none⟩), .int .u32 x, .int .i64 1] w fun e w' => e = .returned (.bool true) ∧ ∃ v', Wtr w' g v' (l ++ [x]) ∧ Mods (g :: rows v) w w' ∧ (v'.ownBlock = v.ownBlock ∨ ∃ b, v'.ownBlock = some b ∧ w.heap.size ≤ b) := by
  have h1 := w_bits g v l x 1 w h (by omega) ⟨hx.1, by omega⟩ hl
  rw [bitsOf_one x hx] at h1
  exact h1

set_option maxHeartbeats 1000000 in
theorem write_any_k (B hi g : Nat) (ls os : List Int) (v : Value) (l : List Int) (s : Nat) (w : World) (ht : IsTree w B hi ls os) (hs : hasS ls s = true) (h : Wtr w g v l) (hg : ∀ w', Mods (g :: rows v) w w' → IsTree w' B hi ls os) (hl : l.length + 15 ≤ 140737488351232) :
    Calls Try.prog 38 #[.pointer (some ⟨B, 0, none⟩), .pointer (some ⟨g, 0, none⟩), .int .i64 s] w fun e w' => e = .returned (.bool true) ∧ ∃ v', Wtr w' g v' (l ++ codeBits (codeS ls s) (costS ls s).toNat) ∧ Mods (g :: rows v) w w' ∧ (v'.ownBlock = v.ownBlock ∨ ∃ b, v'.ownBlock = some b ∧ w.heap.size ≤ b) := by
  have HT := Lib.hid ht; have HS := Lib.hid hs; have H := Lib.hid h; have HV := Lib.hid hg
  have hc := ht.2.2.2.1
  have hsl : s < ls.length ∧ 0 < ln ls s := by unfold hasS at hs; rw [Int.toNat_natCast] at hs; simp at hs; exact hs
  obtain ⟨hl0, hl1⟩ := (complete hc).1 s
  obtain ⟨hsl, hp⟩ := hsl
  obtain ⟨n, hn⟩ : ∃ n : Nat, costS ls s = n := Int.eq_ofNat_of_zero_le (by unfold costS; rw [hs, Int.toNat_natCast]; simp; split <;> omega)
  have hn15 : n ≤ 15 := by unfold costS at hn; rw [hs, Int.toNat_natCast] at hn; simp at hn; split at hn <;> omega
  have HCO := Lib.hid hn
  rw [hn, Int.toNat_natCast]
  have hcb := code_le hc s
  have HC := Lib.hid hc; have HP := Lib.hid hp
  have hgl : hi ≤ w.heap.size := ht.2.1
  clear ht hs h hg hn hc hp
  go_enter Try.func38, Try.ntmps38
  go_wp2_with (go_at_call 54; refine (cost_any B hi ls os s w HT.out).mono ?_; rintro e w' ⟨rfl, rfl⟩; rw [HS.out, HCO.out])
  have hgo : Calls Try.prog 38 #[] w (fun _ _ => True) → True := fun _ => trivial
  clear hgo
  go_loopw [9] (fun i wr => ∃ r : Nat, r ≤ n ∧ i = .int .i64 ((r : Int) - 1) ∧ Hid (∃ v', Wtr wr g v' (l ++ codeUp (codeS ls s) n (n - r)) ∧ Mods (g :: rows v) w wr ∧ (v'.ownBlock = v.ownBlock ∨ ∃ b, v'.ownBlock = some b ∧ w.heap.size ≤ b))) (fun i _ => (intOf i + 1).toNat)
  case atStart => exact ⟨n, by omega, rfl, v, by rw [Nat.sub_self, show codeUp (codeS ls s) n 0 = [] from rfl, List.append_nil]; exact H.out, Mods.refl _ _, .inl rfl⟩
  case round =>
    obtain ⟨r, hr, rfl, HX⟩ := hrel
    by_cases hr0 : r = 0
    · subst hr0
      have hd : decide ((0 : Int) ≤ ((0 : Nat) : Int) - 1) = false := by decide
      go_wp2_with fail
      go_ret
      exact ⟨rfl, HX.out⟩
    · obtain ⟨m, rfl⟩ : ∃ m, r = m + 1 := ⟨r - 1, by omega⟩
      rw [show (((m + 1 : Nat) : Int)) - 1 = (m : Int) from by omega]
      obtain ⟨v1, hv1, hm1, ha1⟩ := HX.out
      have ht := HV.out _ hm1
      obtain ⟨_, _, hlb, _, _, Al, cl, Ac, cc, Ao, co, hk, _, r2, _, _, _, _⟩ := ht
      have hcc : wr.cell? ⟨B, 1, none⟩ = some (.slice Ac ls.length cc) := by rw [cell_blk hk]; rfl
      obtain ⟨ad, hA, hcell⟩ := ReadsInt.at_ r2 (s : Int) (by omega) (by omega)
      have hcode : rd (codesS ls) (s : Int) = codeS ls s := by
        unfold rd; rw [Int.toNat_natCast, List.getD_eq_getElem?_getD, codesS_get _ _ hsl, if_pos HP.out]; rfl
      rw [hcode, Int.toNat_natCast] at hcell
      subst hA
      have hsi : (s : Int) < (ls.length : Int) := by omega
      have hst : ((s : Int)).toNat = s := by omega
      have HV1 := Lib.hid hv1; have HM1 := Lib.hid hm1; have HA1 := Lib.hid ha1
      have hq0 : 0 ≤ codeS ls s / 2 ^ m := Int.ediv_nonneg hcb.1 (by exact_mod_cast Nat.zero_le _)
      have hq1 : codeS ls s / 2 ^ m ≤ codeS ls s := Int.ediv_le_self _ hcb.1
      have hand : bits BinOp.and .u32 (codeS ls s / 2 ^ m) 1 = codeS ls s / 2 ^ m % 2 := and_one _ ⟨hq0, by omega⟩
      clear hv1 hm1 ha1 HX hk r2 hcode
      go_wp2_with fail
      refine (w_bit g v1 _ (codeS ls s / 2 ^ m % 2) wr HV1.out (by omega) (by rw [List.length_append, codeUp_length]; omega)).mono ?_
      rintro e w2 ⟨rfl, v2, hv2, hm2, ha2⟩
      have HX2 : Hid (∃ v', Wtr w2 g v' (l ++ codeUp (codeS ls s) n (n - m)) ∧ Mods (g :: rows v) w w2 ∧ (v'.ownBlock = v.ownBlock ∨ ∃ b, v'.ownBlock = some b ∧ w.heap.size ≤ b)) := by
        refine ⟨v2, ?_, HM1.out.trans_new hm2 (fun r hr => ?_), ?_⟩
        · have e1 : n - m = (n - (m + 1)) + 1 := by omega
          have e2 : n - 1 - (n - (m + 1)) = m := by omega
          rw [e1, codeUp_succ, e2, ← List.append_assoc]; exact hv2
        · rcases List.mem_cons.1 hr with rfl | hr
          · exact .inl (by simp)
          · have hr' : v1.ownBlock = some r := by simpa [rows] using hr
            rcases HA1.out with h | ⟨b, h, hb⟩
            · exact .inl (by simp [rows, ← h, hr'])
            · rw [hr'] at h; cases h; exact .inr hb
        · rcases ha2 with h | ⟨b, h, hb⟩
          · rw [h]; exact HA1.out
          · exact .inr ⟨b, h, by have := HM1.out.size; omega⟩
      clear hv2 hm2 ha2
      go_wp2_with fail
      go_roundw
      case rel => exact ⟨m, by omega, by go_num, HX2.out⟩
      case measure => simp [intOf]
theorem write_any (B hi g : Nat) (ls os : List Int) (v : Value) (l : List Int) (s : Nat) (w : World) (ht : IsTree w B hi ls os) (hs : hasS ls s = true) (h : Wtr w g v l) (hg : hi ≤ g) (hl : l.length + 15 ≤ 140737488351232) (hvb : ∀ b, v.ownBlock = some b → hi ≤ b) :
    Calls Try.prog 38 #[.pointer (some ⟨B, 0, none⟩), .pointer (some ⟨g, 0, none⟩), .int .i64 s] w fun e w' => e = .returned (.bool true) ∧ ∃ v', Wtr w' g v' (l ++ codeBits (codeS ls s) (costS ls s).toNat) ∧ Mods (g :: rows v) w w' ∧ (v'.ownBlock = v.ownBlock ∨ ∃ b, v'.ownBlock = some b ∧ w.heap.size ≤ b) :=
  write_any_k B hi g ls os v l s w ht hs h (fun _ hm => ht.mods hm (by
    intro b hb
    rcases List.mem_cons.1 hb with rfl | hb
    · exact hg
    · exact hvb b (by simpa [rows] using hb))) hl
end Go.Proofs.Ytbljoihnjhllhaa

/- Plain theory of trees, second part: what is written is read again. No program in sight. -/
namespace Go.Proofs.Ytbljoihnjhllhaa
open Go.RowKit
open Go.Proofs.YtbljoihnjhllhaaW.PrintWords
open Srt

theorem codeBits_length (v : Int) (n : Nat) : (codeBits v n).length = n := by simp [codeBits]
theorem codeBits_bits (v : Int) (n : Nat) : IsBits (codeBits v n) := by
  intro x hx
  unfold codeBits at hx
  rw [List.mem_map] at hx
  obtain ⟨k, _, rfl⟩ := hx
  omega
theorem codeBits_get (v : Int) (n t : Nat) (h : t < n) : (codeBits v n)[t]? = some (v / 2 ^ (n - 1 - t) % 2) := by
  simp [codeBits, List.getElem?_map, List.getElem?_range h]
def sb (ls : List Int) (s : Nat) : List Int := codeBits (codeS ls s) (costS ls s).toNat
def sbs (ls : List Int) (T : List Nat) : List Int := T.flatMap (sb ls)
theorem sbs_app (ls : List Int) (T : List Nat) (s : Nat) : sbs ls (T ++ [s]) = sbs ls T ++ sb ls s := by simp [sbs]
theorem sbs_bits (ls : List Int) (T : List Nat) : IsBits (sbs ls T) := by
  intro x hx
  unfold sbs at hx
  rw [List.mem_flatMap] at hx
  obtain ⟨s, _, h⟩ := hx
  exact codeBits_bits _ _ x h
theorem sbs_len {ls : List Int} (h : ∀ s : Nat, (costS ls s).toNat ≤ 15) (T : List Nat) : (sbs ls T).length ≤ 15 * T.length := by
  induction T with
  | nil => simp [sbs]
  | cons s T ih =>
    have h1 : sbs ls (s :: T) = sb ls s ++ sbs ls T := rfl
    have h2 : (sb ls s).length = (costS ls s).toNat := codeBits_length _ _
    have h3 := h s
    rw [h1, List.length_append, h2, List.length_cons]
    omega
theorem costS_le {ls : List Int} (hc : checkS ls = 0) (s : Nat) : 0 ≤ costS ls s ∧ costS ls s ≤ 15 := by
  have := (complete hc).1 s
  unfold costS
  rw [Int.toNat_natCast]
  split
  · split <;> omega
  · omega
/-- Where symbol j's bits lie. -/
theorem sbs_at (ls : List Int) (T : List Nat) (j : Nat) (hj : j < T.length) (t : Nat) (ht : t < (costS ls T[j]).toNat) :
    bl (sbs ls T) ((sbs ls (T.take j)).length + t) = codeS ls T[j] / 2 ^ ((costS ls T[j]).toNat - 1 - t) % 2 := by
  have e : sbs ls T = sbs ls (T.take j) ++ (sb ls T[j] ++ sbs ls (T.drop (j + 1))) := by
    have h1 : T = T.take j ++ T[j] :: T.drop (j + 1) := by rw [List.getElem_cons_drop]; simp
    have h2 : ∀ a b : List Nat, sbs ls (a ++ b) = sbs ls a ++ sbs ls b := fun a b => by simp [sbs]
    have h3 : sbs ls (T.take j ++ T[j] :: T.drop (j + 1)) = sbs ls (T.take j) ++ (sb ls T[j] ++ sbs ls (T.drop (j + 1))) := by rw [h2]; rfl
    rw [← h3, ← h1]
  rw [e]
  unfold bl
  rw [List.getElem?_append_right (by omega), Nat.add_sub_cancel_left, List.getElem?_append_left (by show t < (codeBits _ _).length; rw [codeBits_length]; exact ht)]
  show ((codeBits _ _)[t]?).getD 0 = _
  rw [codeBits_get _ _ _ ht]; rfl
theorem sbs_take_next (ls : List Int) (T : List Nat) (j : Nat) (hj : j < T.length) : (sbs ls (T.take (j + 1))).length = (sbs ls (T.take j)).length + (costS ls T[j]).toNat := by
  rw [List.take_add_one, List.getElem?_eq_getElem hj]
  show (sbs ls (T.take j ++ [T[j]])).length = _
  rw [sbs_app, List.length_append]
  show _ + (codeBits _ _).length = _
  rw [codeBits_length]
theorem sbs_take_le (ls : List Int) (T : List Nat) (j : Nat) : (sbs ls (T.take j)).length ≤ (sbs ls T).length := by
  have h : sbs ls T = sbs ls (T.take j) ++ sbs ls (T.drop j) := by
    unfold sbs
    rw [← List.flatMap_append, List.take_append_drop]
  rw [h, List.length_append]; omega
theorem vAt_code (bs : List Int) (p n : Nat) (c : Int) (h0 : 0 ≤ c) (h1 : c < 2 ^ n) (h : ∀ t, t < n → bitAt bs (p + t) = c / 2 ^ (n - 1 - t) % 2) : ∀ m, m ≤ n → vAt bs p m = c / 2 ^ (n - m) := by
  intro m
  induction m with
  | zero => intro _; simp only [vAt, Nat.sub_zero]; exact (Int.ediv_eq_zero_of_lt h0 h1).symm
  | succ m ih =>
    intro hm
    simp only [vAt]
    rw [ih (by omega), h m (by omega), show n - 1 - m = n - (m + 1) from by omega, show n - m = (n - (m + 1)) + 1 from by omega, Int.pow_succ, ← Int.ediv_ediv_of_nonneg (by exact_mod_cast Nat.zero_le _)]
    omega
theorem upTo_mono0 (ls : List Int) (n : Int) (hn : 0 < n) (i : Nat) (hi : i ≤ ls.length) : upTo ls n 0 ≤ upTo ls n i := by
  rw [upTo_eq ls n hn i hi]; omega
theorem upTo_scale (ls : List Int) (m : Nat) : ∀ d : Nat, upTo ls m ls.length * 2 ^ (d + 1) ≤ upTo ls (m + 1 + d : Nat) 0 := by
  intro d
  induction d with
  | zero =>
    have := upTo_next ls m
    rw [show ((m + 1 + 0 : Nat) : Int) = (m : Int) + 1 from rfl, this]
    simp
  | succ d ih =>
    have h1 := upTo_next ls (m + 1 + d : Nat)
    have h2 := upTo_mono0 ls (m + 1 + d : Nat) (by omega) ls.length (Nat.le_refl _)
    rw [show ((m + 1 + (d + 1) : Nat) : Int) = ((m + 1 + d : Nat) : Int) + 1 from rfl, h1, Int.pow_succ, ← Int.mul_assoc]
    omega
/-- What is written is found. -/
theorem found_written {ls bs : List Int} {p s : Nat} (hc : checkS ls = 0) (h1 : (oneS ls).2 = false) (hs : hasS ls s = true) (h : ∀ t, t < (costS ls s).toNat → bitAt bs (p + t) = codeS ls s / 2 ^ ((costS ls s).toNat - 1 - t) % 2) : Found ls bs p (costS ls s).toNat s := by
  have hb := (complete hc).1 s
  have hsl : s < ls.length ∧ 0 < ln ls s := by unfold hasS at hs; rw [Int.toNat_natCast] at hs; simp at hs; exact hs
  have e : costS ls s = ln ls s := by unfold costS; rw [hs, h1, Int.toNat_natCast]; rfl
  rw [e] at h ⊢
  obtain ⟨n, hn⟩ := Int.eq_ofNat_of_zero_le hb.1
  rw [hn, Int.toNat_natCast] at h ⊢
  have hcl := code_lt hc hsl.1 hsl.2
  rw [hn, Int.toNat_natCast] at hcl
  have hv := vAt_code bs p n (codeS ls s) hcl.1 (by omega) h
  refine ⟨by omega, by omega, hsl.1, hn, ?_, fun m h1 h2 => ?_⟩
  · rw [hv n (Nat.le_refl _), Nat.sub_self]; simp
  · rw [hv m (by omega)]
    have hp : (0 : Int) < 2 ^ (n - m) := by exact_mod_cast Nat.two_pow_pos _
    rw [Int.le_ediv_iff_mul_le hp]
    have h3 := upTo_scale ls m (n - m - 1)
    rw [show n - m - 1 + 1 = n - m from by omega, show m + 1 + (n - m - 1) = n from by omega] at h3
    have h4 := upTo_mono0 ls n (by omega) s (by omega)
    have h5 := upTo_code ls s
    rw [hn] at h5
    omega
/-- The only symbol. -/
theorem one_is {ls : List Int} (hc : checkS ls = 0) (h1 : (oneS ls).2 = true) {s : Nat} (hs : hasS ls s = true) : (oneS ls).1 = s := by
  have hsl : s < ls.length ∧ 0 < ln ls s := by unfold hasS at hs; rw [Int.toNat_natCast] at hs; simp at hs; exact hs
  have hm := (one_many (fun t => ((complete hc).1 t).1)).1 h1
  have hn := nonzero_many (ls := ls) (fun t => ((complete hc).1 t).1)
  rw [hm] at hn
  obtain ⟨j, hj⟩ := List.length_eq_one_iff.1 hn
  have hmem : s ∈ nonzero ls := by
    unfold nonzero
    rw [List.mem_filter, List.mem_range]
    exact ⟨hsl.1, by simp; omega⟩
  rw [hj] at hmem
  obtain rfl : s = j := by simpa using hmem
  unfold oneS; rw [hj]; rfl
end Go.Proofs.Ytbljoihnjhllhaa
