/- lens.Write: which lengths may not be written. -/
import Derived.Test.YtbljoihnjhllhaaLensFlat26
import Derived.Test.YtbljoihnjhllhaaChecked
import Derived.Test.YtbljoihnjhllhaaLensFlat4
import Derived.Test.YtbljoihnjhllhaaLensFlat1
import Derived.Test.YtbljoihnjhllhaaLensFlat18
import Derived.Test.YtbljoihnjhllhaaLensFlat20
namespace Go.Proofs.Ytbljoihnjhllhaa
open Go.RowKit
open Go.Proofs.YtbljoihnjhllhaaW.PrintWords
open Srt Sz

set_option maxRecDepth 100000 in
set_option maxHeartbeats 4000000 in
theorem write_none (g : Nat) (A : Option Addr) (c : Nat) (w : World) (HR : ReadsInt w .i64 A 0 []) :
    Calls Try.prog 7 #[.pointer (some ⟨g, 0, none⟩), .slice A 0 c] w fun e w' => e = .returned (.bool false) ∧ Below w.heap.size w w' := by
  have HRR := Lib.hid HR
  clear HR
  go_enter Try.func7, Try.ntmps7
  go_wp2_with fail
  refine (order_any A 0 c [] w HRR.out (by omega) (by simp)).mono ?_
  rintro e w1 ⟨hB1, v1, os, rfl, hos, hown⟩
  obtain ⟨A1, c1, rfl, hr1⟩ := own_reads hown
  have HB1 := Lib.hid hB1
  obtain ⟨m, hm⟩ : ∃ m, os.length = m := ⟨_, rfl⟩
  rw [hm]
  clear hB1 hown hos hr1 hm
  go_wp2_with fail
  go_ret
  exact ⟨rfl, HB1.out⟩
set_option maxRecDepth 100000 in
set_option maxHeartbeats 4000000 in
theorem write_bad (g : Nat) (A : Option Addr) (n c : Nat) (ls : List Int) (w : World) (HR : ReadsInt w .i64 A n ls) (h1 : 1 ≤ n) (hn : n ≤ 4096) (hm : ∀ x ∈ ls, x ≤ 9223372036854775807) (hbad : ((∃ t, 0 < ln ls t) ∧ checkS ls ≠ 0) ∨ ((∀ t, ln ls t ≤ 0) ∧ ¬ NoNeg ls)) :
    Calls Try.prog 7 #[.pointer (some ⟨g, 0, none⟩), .slice A n c] w fun e w' => e = .returned (.bool false) ∧ Below w.heap.size w w' := by
  have HRR := Lib.hid HR; have HMX := Lib.hid hm; have HBAD := Lib.hid hbad
  have HLN := Lib.hid HR.1
  clear HR hm hbad
  go_enter Try.func7, Try.ntmps7
  go_wp2_with fail
  refine (order_any A n c ls w HRR.out (by omega) HMX.out).mono ?_
  rintro e w1 ⟨hB1, v1, os, rfl, hos, hown⟩
  have HR1 := Lib.hid (ReadsInt.below HRR.out hB1)
  have HB1 := Lib.hid hB1
  obtain ⟨A1, c1, rfl, hr1⟩ := own_reads hown
  have hmL := hr1.2.1
  have q1 : decide ((n : Int) < 1) = false := decide_eq_false (by omega)
  have q2 : decide ((4096 : Int) < (n : Int)) = false := decide_eq_false (by omega)
  clear hB1 hown hr1
  rcases HBAD.out with ⟨⟨t, ht⟩, hck⟩ | ⟨hall, hneg⟩
  · have htl : t < ls.length := by
      rcases Nat.lt_or_ge t ls.length with q | q
      · exact q
      · rw [ln_beyond q] at ht; omega
    have hmem := hos.has htl ht
    have hpos : 0 < os.length := List.length_pos_of_mem hmem
    have hcb : (checkS ls != 0) = true := by simp [hck]
    obtain ⟨m, hm⟩ : ∃ m, os.length = m := ⟨_, rfl⟩
    rw [hm] at hpos hmL
    rw [hm]
    clear hm hmem hos ht hck
    have d3 : decide ((0 : Int) < (m : Int)) = true := decide_eq_true (by omega)
    have HCB := Lib.hid hcb
    clear hcb
    go_wp2_with fail
    refine (check_any A n c ls w1 HR1.out (by omega)).mono ?_
    rintro e w' ⟨rfl, rfl⟩
    have hcb := HCB.out
    generalize checkS ls = cc at *
    clear HCB
    go_wp2_with fail
    go_ret
    exact ⟨rfl, HB1.out⟩
  · have h0 : os = [] := by
      cases os with
      | nil => rfl
      | cons a t => have := hos.mem (x := a) (by simp); have := hall a.toNat; omega
    subst h0
    have hmn : minTo ls n < 0 := by rw [← HLN.out]; exact minTo_neg hneg
    obtain ⟨mn, hmn'⟩ : ∃ mn, minTo ls n = mn := ⟨_, rfl⟩
    rw [hmn'] at hmn
    have HM' := Lib.hid hmn'
    clear hmn' hos hneg hall hmL
    have q3 : decide (mn < 0) = true := decide_eq_true hmn
    go_wp2_with fail
    refine (minI A n c ls w1 HR1.out (by omega) (by omega)).mono ?_
    rintro e w' ⟨rfl, rfl⟩
    rw [HM'.out]
    go_wp2_with fail
    go_ret
    exact ⟨rfl, HB1.out⟩
end Go.Proofs.Ytbljoihnjhllhaa

/- What the reference's reader of bits does. -/
namespace Go.Proofs.Ytbljoihnjhllhaa
open Go.RowKit
open Go.Proofs.YtbljoihnjhllhaaW.PrintWords

/-- The first n bits of bytes as a list. -/
def bitList (bs : List Int) (n : Nat) : List Int := (List.range n).map (bitAt bs)
theorem bitList_length (bs : List Int) (n : Nat) : (bitList bs n).length = n := by simp [bitList]
theorem bitList_succ (bs : List Int) (n : Nat) : bitList bs (n + 1) = bitList bs n ++ [bitAt bs n] := by simp [bitList, List.range_succ]
theorem bitList_get (bs : List Int) (n i : Nat) (h : i < n) : (bitList bs n).getD i 0 = bitAt bs i := by
  simp [bitList, List.getD_eq_getElem?_getD, List.getElem?_map, List.getElem?_range h]


set_option maxHeartbeats 1000000 in
theorem refBits_any (A : Option Addr) (n c : Nat) (bs : List Int) (w : World) (HR : ReadsInt w .u8 A n bs) (hb : ∀ x ∈ bs, 0 ≤ x ∧ x ≤ 255) (hn : 8 * n ≤ 140737488351232) :
    Calls Try.prog 24 #[.slice A n c] w fun e w' => ∃ v, e = .returned v ∧ w'.ownsRow w.heap.size 5 1 v (8 * n) (nums .u8 (bitList bs (8 * n))) ∧ Below w.heap.size w w' := by
  have HR := Lib.hid HR; have HX := Lib.hid hb
  clear hb
  go_enter Try.func24, Try.ntmps24
  go_wp2
  go_loopw [3, 4, 5, 6] (fun v i x y wr => ∃ j : Nat, j ≤ n ∧ i = .int .i64 j ∧ wr.ownsRow w.heap.size 5 1 v (8 * j) (nums .u8 (bitList bs (8 * j))) ∧ Below w.heap.size w wr) (fun _ i _ _ _ => n - (intOf i).toNat)
  case atStart => exact ⟨0, by omega, rfl, own_nil _ _ _ _, Below.refl _ _⟩
  case round =>
    obtain ⟨j, hj, rfl, hO, hB⟩ := hrel
    have HO := Lib.hid hO; have HB := Lib.hid hB
    clear hO hB
    by_cases hlt : j < n
    · obtain ⟨ad, hA, hcell0⟩ := ReadsInt.at_ HR.out (j : Int) (by omega) (by omega)
      have hcell := pw_cell_below HB.out hcell0
      rw [Int.toNat_natCast] at hcell
      clear hcell0
      subst hA
      have hxb : 0 ≤ rd bs j ∧ rd bs j ≤ 255 := HX.out _ (by unfold rd; rw [List.getD_eq_getElem?_getD, Int.toNat_natCast, List.getElem?_eq_getElem (by have := HR.out.1; omega)]; exact List.getElem_mem _)
      obtain ⟨wo, hwo⟩ : ∃ wo : World, wo = wr := ⟨_, rfl⟩
      subst hwo
      generalize hb0 : rd bs j = b0 at *
      have HB0 := Lib.hid hb0; clear hb0
      go_wp2
      go_loopw [3, 5, 6] (fun v x i wr => ∃ k : Nat, k ≤ 8 ∧ i = .int .i64 k ∧ (∃ y : Int, x = .int .u8 y ∧ 0 ≤ y ∧ y ≤ 255 ∧ Hid (y = b0 / 2 ^ k)) ∧ wr.ownsRow w.heap.size 5 1 v (8 * j + k) (nums .u8 (bitList bs (8 * j + k))) ∧ Below w.heap.size w wr) (fun _ _ i _ => 8 - (intOf i).toNat)
      case atStart => exact ⟨0, by omega, rfl, ⟨b0, rfl, hxb.1, hxb.2, by simp [Hid]⟩, HO.out, HB.out⟩
      case round =>
        obtain ⟨k, hk, rfl, ⟨y, rfl, hy0, hy1, HY⟩, hO, hB⟩ := hrel
        have HO := Lib.hid hO; have HB := Lib.hid hB
        clear hO hB
        by_cases hlt2 : k < 8
        · go_wp2_with (at_builtin; refine print_append_num w.heap.size rfl _ _ 34 5 .u8 1 rfl Try.underlying34 info_u8 (by decide) _ (bitList bs (8 * j + k)) (y % 2) rfl rfl (by rw [bitList_length]; exact HO.out) HB.out HB.out.size (by rw [bitList_length]; omega) ?_)
          intro v1 w1 hown hB1 hg hat
          have HO1 := Lib.hid hown; have HB1 := Lib.hid hB1
          clear hown hB1 hg hat
          go_wp2
          go_roundw
          case rel =>
            have hbit : bitAt bs (8 * j + k) = y % 2 := by
              unfold bitAt
              rw [show (8 * j + k) / 8 = j from by omega, show (8 * j + k) % 8 = k from by omega, HY.out, ← HB0.out]
              unfold rd; rw [List.getD_eq_getElem?_getD]; rfl
            refine ⟨k + 1, by omega, by go_num, ⟨y / 2, ?_, by omega, by omega, ?_⟩, ?_, HB1.out⟩
            · congr 1
            · show y / 2 = _
              rw [HY.out, Int.pow_succ, Int.ediv_ediv_of_nonneg (Int.le_of_lt (by exact_mod_cast Nat.two_pow_pos k))]
            · have h := HO1.out
              rw [← hbit, ← bitList_succ, bitList_length] at h
              exact h
          case measure => simp [intOf]; omega
        · have hk8 : k = 8 := by omega
          have hO8 := HO.out
          rw [hk8, show 8 * j + 8 = 8 * (j + 1) from by omega] at hO8
          have HO8 := Lib.hid hO8; clear hO8 hk8
          go_wp2
          go_roundw
          case rel => exact ⟨j + 1, by omega, by go_num, HO8.out, HB.out⟩
          case measure => simp [intOf]; omega
    · have hjn : j = n := by omega
      have hO := HO.out
      rw [hjn] at hO
      have HO2 := Lib.hid hO; clear hO hjn
      go_wp2
      go_ret
      exact ⟨_, rfl, HO2.out, HB.out⟩

/-- Block g is the reference's reader of the bytes bs, p bits of which are read; sh: they ran out. -/
def Eye (w : World) (g : Nat) (A : Option Addr) (bs : List Int) (p : Nat) (sh : Bool) : Prop :=
  p ≤ 8 * bs.length ∧ 8 * bs.length ≤ 140737488351232 ∧ (∃ c, w.heap[g]? = some (.cells #[.slice A (8 * bs.length) c, .int .i64 p, .bool sh] 40 (0, 0))) ∧ ReadsInt w .u8 A (8 * bs.length) (bitList bs (8 * bs.length)) ∧ ∀ ad, A = some ad → ad.block ≠ g
theorem Eye.lt {w : World} {g : Nat} {A : Option Addr} {bs : List Int} {p : Nat} {sh : Bool} (h : Eye w g A bs p sh) : g < w.heap.size := by
  obtain ⟨_, _, ⟨c, hb⟩, _⟩ := h
  exact blk_lt hb
theorem Eye.mods {S : List Nat} {w w' : World} {g : Nat} {A : Option Addr} {bs : List Int} {p : Nat} {sh : Bool} (h : Eye w g A bs p sh) (hm : Mods S w w') (hg : g ∉ S) (hs : ∀ ad, A = some ad → ad.block ∉ S) : Eye w' g A bs p sh := by
  obtain ⟨h1, h2, ⟨c, hb⟩, hr, hn⟩ := h
  exact ⟨h1, h2, ⟨c, hm.blk hb hg⟩, ReadsInt.mods hr hm hs, hn⟩

set_option maxHeartbeats 400000 in
theorem look_any (A : Option Addr) (n c : Nat) (bs : List Int) (w : World) (HR : ReadsInt w .u8 A n bs) (hb : ∀ x ∈ bs, 0 ≤ x ∧ x ≤ 255) (hn : 8 * n ≤ 140737488351232) :
    Calls Try.prog 11 #[.slice A n c] w fun e w' => ∃ g A', e = .returned (.pointer (some ⟨g, 0, none⟩)) ∧ w.heap.size ≤ g ∧ (∀ ad, A' = some ad → w.heap.size ≤ ad.block) ∧ Eye w' g A' bs 0 false ∧ Below w.heap.size w w' := by
  have HRR := Lib.hid HR; have HX := Lib.hid hb
  have hl := HR.1
  clear hb HR
  have HL := Lib.hid hl; clear hl
  go_enter Try.func11, Try.ntmps11
  go_wp2_with (go_at_call 24; refine (refBits_any A n c bs w HRR.out HX.out hn).mono ?_; rintro e w1 ⟨v, rfl, hown, hB⟩; obtain ⟨A1, c1, rfl, hr1⟩ := own_reads hown; have HO := Lib.hid hown; have HB := Lib.hid hB; have HR1 := Lib.hid hr1; clear hown hB hr1)
  go_ret
  have hfr : ∀ ad, A1 = some ad → w.heap.size ≤ ad.block := fun ad h => own_base HO.out ad.block (by rw [h]; rfl)
  have hlt : ∀ ad, A1 = some ad → ad.block < w1.heap.size := fun ad h => own_lt HO.out ad.block (by rw [h]; rfl)
  have hL := HL.out
  subst hL
  refine ⟨w1.heap.size, A1, rfl, HB.out.size, hfr, ⟨by omega, hn, ⟨c1, blk_alloc _⟩, ?_, fun ad h => ?_⟩, HB.out.alloc HB.out.size _⟩
  · exact ReadsInt.mods HR1.out (S := []) ((Mods.refl _ _).alloc _) (by simp)
  · have := hlt ad h; omega

set_option maxHeartbeats 400000 in
theorem num_out (g : Nat) (A : Option Addr) (bs : List Int) (p : Nat) (sh : Bool) (k : Nat) (w : World) (hp : sh = true ∨ 8 * bs.length < p + k) (hk : 0 < k) (hk2 : k ≤ 60) (h : Eye w g A bs p sh) :
    Calls Try.prog 26 #[.pointer (some ⟨g, 0, none⟩), .int .i64 k] w fun e w' => e = .returned (.int .i64 0) ∧ Eye w' g A bs p true ∧ Mods [g] w w' := by
  obtain ⟨hp', hl, ⟨c, hb⟩, hr, hn⟩ := h
  have h0 : w.cell? ⟨g, 0, none⟩ = some (.slice A (8 * bs.length) c) := cell_blk hb 0
  have h1 : w.cell? ⟨g, 1, none⟩ = some (.int .i64 p) := cell_blk hb 1
  have h2 : w.cell? ⟨g, 2, none⟩ = some (.bool sh) := cell_blk hb 2
  have f2 : w.frozen? ⟨g, 2, none⟩ = false := free_blk hb 2
  have HBk := Lib.hid hb; have HR := Lib.hid hr; have HN := Lib.hid hn
  clear hb hr hn
  have hk' : (0 : Int) < (k : Int) := by omega
  have fin : ∀ m, Eye ((w.drewN m).setCell ⟨g, 2, none⟩ (.bool true)) g A bs p true ∧ Mods [g] w ((w.drewN m).setCell ⟨g, 2, none⟩ (.bool true)) := fun m => by
    refine ⟨⟨hp', hl, ⟨c, ?_⟩, ?_, HN.out⟩, ((Mods.refl _ _).drewN _).setCell (by simp) _⟩
    · rw [blk_set (w := w.drewN m) (by rw [heap_drewN]; exact HBk.out)]
      simp
    · refine ReadsInt.mods HR.out (S := [g]) (((Mods.refl _ _).drewN _).setCell (by simp) _) ?_
      intro ad' h'; have := HN.out ad' h'; simpa using this
  have FIN := Lib.hid fin; clear fin
  cases sh
  · have hq : ((8 * bs.length : Nat) : Int) - (p : Int) < (k : Int) := by simp at hp; omega
    clear hp
    go_enter Try.func26, Try.ntmps26
    go_wp2
    go_quiet (fail)
    go_wp2
    go_ret
    exact ⟨rfl, FIN.out _⟩
  · clear hp
    go_enter Try.func26, Try.ntmps26
    go_wp2
    go_quiet (fail)
    go_wp2
    go_ret
    exact ⟨rfl, FIN.out _⟩

set_option maxHeartbeats 1000000 in
theorem num_in (g : Nat) (A : Option Addr) (bs : List Int) (p : Nat) (k : Nat) (w : World) (hp : p + k ≤ 8 * bs.length) (hk : 0 < k) (hk2 : k ≤ 60) (h : Eye w g A bs p false) :
    Calls Try.prog 26 #[.pointer (some ⟨g, 0, none⟩), .int .i64 k] w fun e w' => e = .returned (.int .i64 (bitsVal bs p k)) ∧ Eye w' g A bs (p + k) false ∧ Mods [g] w w' := by
  have H := Lib.hid h
  obtain ⟨hp', hl, ⟨c, hb⟩, hr, hn⟩ := h
  have h0 : w.cell? ⟨g, 0, none⟩ = some (.slice A (8 * bs.length) c) := cell_blk hb 0
  have h1 : w.cell? ⟨g, 1, none⟩ = some (.int .i64 p) := cell_blk hb 1
  have h2 : w.cell? ⟨g, 2, none⟩ = some (.bool false) := cell_blk hb 2
  clear hb hr hn
  have hk' : (0 : Int) < (k : Int) := by omega
  have hq : (k : Int) ≤ ((8 * bs.length : Nat) : Int) - (p : Int) := by omega
  go_enter Try.func26, Try.ntmps26
  go_wp2
  go_quiet (fail)
  go_wp2
  clear h0 h1 h2
  go_loopw [5, 6] (fun v i wr => ∃ j : Nat, j ≤ k ∧ i = .int .i64 j ∧ v = .int .i64 (bitsVal bs p j) ∧ Eye wr g A bs (p + j) false ∧ Mods [g] w wr) (fun _ i _ => k - (intOf i).toNat)
  case atStart => exact ⟨0, by omega, rfl, rfl, H.out.mods ((Mods.refl [] _).drewN _) (by simp) (by simp), (Mods.refl _ _).drewN _⟩
  case round =>
    obtain ⟨j, hj, rfl, rfl, h, hM⟩ := hrel
    have HE := Lib.hid h; have HM := Lib.hid hM
    obtain ⟨hp', hl, ⟨c, hb⟩, hr, hn⟩ := h
    have h0 : wr.cell? ⟨g, 0, none⟩ = some (.slice A (8 * bs.length) c) := cell_blk hb 0
    have h1 : wr.cell? ⟨g, 1, none⟩ = some (.int .i64 ((p + j : Nat) : Int)) := cell_blk hb 1
    have f1 : wr.frozen? ⟨g, 1, none⟩ = false := free_blk hb 1
    have HBk := Lib.hid hb; have HR := Lib.hid hr; have HN := Lib.hid hn
    clear hb hr hn hM
    by_cases hlt : j < k
    · obtain ⟨ad, hA, hcell⟩ := ReadsInt.at_ HR.out ((p + j : Nat) : Int) (by omega) (by omega)
      rw [Int.toNat_natCast] at hcell
      rw [hA] at h0
      have HA := Lib.hid hA; clear hA
      have hv0 := bitsVal_nonneg bs p j
      have hv1 := bitsVal_lt bs p j
      have hbb := bitAt_bounds bs (p + j)
      have hv2 : (2 : Int) ^ j ≤ 2 ^ 59 := by exact_mod_cast Nat.pow_le_pow_right (by decide) (show j ≤ 59 by omega)
      have hpj : (0 : Int) < 2 ^ j := by exact_mod_cast Nat.two_pow_pos j
      have hbit : rd (bitList bs (8 * bs.length)) ((p + j : Nat) : Int) = bitAt bs (p + j) := by unfold rd; rw [Int.toNat_natCast, bitList_get _ _ _ (by omega)]
      rw [hbit] at hcell
      have hm1 : bitAt bs (p + j) * 2 ^ j ≤ 1 * 2 ^ j := Int.mul_le_mul_of_nonneg_right hbb.2 (by omega)
      have hm0 : 0 ≤ bitAt bs (p + j) * 2 ^ j := Int.mul_nonneg hbb.1 (by omega)
      have HSTEP : Hid (bitsVal bs p (j + 1) = bitsVal bs p j + bitAt bs (p + j) * 2 ^ j) := rfl
      clear hbit
      generalize bitAt bs (p + j) = bt0 at *
      generalize bitsVal bs p j = v0 at *
      generalize hP : (2 : Int) ^ j = P at *
      have HP := Lib.hid hP; clear hP
      go_wp2
      go_quiet (fail)
      go_wp2
      go_roundw
      case rel =>
        have hP := HP.out
        refine ⟨j + 1, by omega, by go_num, ?_, ⟨by omega, hl, ⟨c, ?_⟩, ?_, HN.out⟩, (HM.out.drewN _).setCell (by simp) _⟩
        · rw [hP, w64 (bt0 * P) (by omega) (by omega), w64 _ (by omega) (by omega), HSTEP.out]
        · rw [blk_set (w := wr.drewN nq) (by rw [heap_drewN]; exact HBk.out)]
          simp [← Int.natCast_add]; omega
        · refine ReadsInt.mods HR.out (S := [g]) (((Mods.refl _ _).drewN _).setCell (by simp) _) ?_
          intro ad' h'; have := HN.out ad' h'; simpa using this
      case measure => simp [intOf]; omega
    · have hjk : j = k := by omega
      have h := HE.out
      have hM := HM.out
      rw [hjk] at h
      have HE2 := Lib.hid h
      have HJ := Lib.hid hjk
      clear h hM hjk HE
      go_wp2
      go_ret
      exact ⟨by rw [← HJ.out]; rfl, HE2.out, HM.out⟩

theorem num_to (v : Int) (g : Nat) (A : Option Addr) (bs : List Int) (p : Nat) (k : Nat) (w : World) (hv : Hid (bitsVal bs p k = v)) (hp : p + k ≤ 8 * bs.length) (hk : 0 < k) (hk2 : k ≤ 60) (h : Eye w g A bs p false) :
    Calls Try.prog 26 #[.pointer (some ⟨g, 0, none⟩), .int .i64 k] w fun e w' => e = .returned (.int .i64 v) ∧ Eye w' g A bs (p + k) false ∧ Mods [g] w w' := by
  rw [← hv.out]
  exact num_in g A bs p k w hp hk hk2 h

/-- No bits. -/
theorem num_zero (g : Nat) (w : World) (A : Option Addr) (bs : List Int) (p : Nat) (sh : Bool) (h : Eye w g A bs p sh) : Calls Try.prog 26 #[.pointer (some ⟨g, 0, none⟩), .int .i64 0] w fun e w' => e = .returned (.int .i64 0) ∧ Eye w' g A bs p sh ∧ Mods [g] w w' := by
  have HE := Lib.hid h; clear h
  have hd : decide ((0 : Int) < 0) = false := rfl
  go_enter Try.func26, Try.ntmps26
  go_wp2
  go_quiet (fail)
  go_wp2
  go_loopw [5, 6] (fun v i wr => i = .int .i64 0 ∧ v = .int .i64 0 ∧ Eye wr g A bs p sh ∧ Mods [g] w wr) (fun _ i _ => 0)
  case atStart => exact ⟨rfl, rfl, HE.out.mods ((Mods.refl [] _).drewN _) (by simp) (by simp), (Mods.refl _ _).drewN _⟩
  case round =>
    obtain ⟨rfl, rfl, h, hM⟩ := hrel
    have HE := Lib.hid h; have HM := Lib.hid hM
    clear h hM
    go_wp2
    go_ret
    exact ⟨rfl, HE.out, HM.out⟩
end Go.Proofs.Ytbljoihnjhllhaa

/- What the reference's Symbol does. -/
namespace Go.Proofs.Ytbljoihnjhllhaa
open Go.RowKit
open Go.Proofs.YtbljoihnjhllhaaW.PrintWords
open Srt

set_option maxHeartbeats 1000000 in
theorem symbol_one (g : Nat) (ls : List Int) (A : Option Addr) (c : Nat) (C : Option Addr) (cc : Nat) (X : Option Addr) (bs : List Int) (p : Nat) (sh : Bool) (w : World) (HR : ReadsInt w .i64 A ls.length ls) (hn : ls.length ≤ 17592186044416) (h1 : (oneS ls).2 = true) (h : Eye w g X bs p sh) :
    Calls Try.prog 28 #[.slice A ls.length c, .slice C ls.length cc, .pointer (some ⟨g, 0, none⟩)] w fun e w' => e = .returned (.int .i64 (if sh then -1 else (oneS ls).1)) ∧ w = w' := by
  have HRR := Lib.hid HR; have H1 := Lib.hid h1
  obtain ⟨x, HX⟩ : ∃ v, Hid ((oneS ls).1 = v) := ⟨_, rfl⟩
  obtain ⟨_, _, ⟨c3, hb⟩, _, _⟩ := h
  have h2 : w.cell? ⟨g, 2, none⟩ = some (.bool sh) := cell_blk hb 2
  rw [HX.out]
  clear HR h1 hb
  cases sh
  · go_enter Try.func28, Try.ntmps28
    go_wp2_with (go_at_call 39; refine (refOne_any A _ c ls w HRR.out hn).mono ?_; rintro e w' ⟨rfl, rfl⟩; rw [HX.out, H1.out])
    go_ret
    exact ⟨rfl, rfl⟩
  · go_enter Try.func28, Try.ntmps28
    go_wp2_with (go_at_call 39; refine (refOne_any A _ c ls w HRR.out hn).mono ?_; rintro e w' ⟨rfl, rfl⟩; rw [HX.out, H1.out])
    go_ret
    exact ⟨rfl, rfl⟩

def lgUp (ls : List Int) : Nat → Int
  | 0 => 0
  | k + 1 => if lgUp ls k < ln ls k then ln ls k else lgUp ls k
theorem lgUp_bounds {ls : List Int} (hc : checkS ls = 0) (k : Nat) : 0 ≤ lgUp ls k ∧ lgUp ls k ≤ 15 := by
  induction k with
  | zero => simp [lgUp]
  | succ k ih => have := (complete hc).1 k; simp only [lgUp]; split <;> omega
theorem lgUp_ge (ls : List Int) (k t : Nat) (h : t < k) : ln ls t ≤ lgUp ls k := by
  induction k with
  | zero => omega
  | succ k ih =>
    simp only [lgUp]
    by_cases e : t = k
    · subst e; split <;> omega
    · have := ih (by omega)
      split <;> omega
def cntCells (ls : List Int) (k : Nat) : Array Value := ((cntK ls k).map (fun x => Value.int .i64 x)).toArray
theorem cntCells_zero (ls : List Int) : cntCells ls 0 = #[.int .i64 0, .int .i64 0, .int .i64 0, .int .i64 0, .int .i64 0, .int .i64 0, .int .i64 0, .int .i64 0, .int .i64 0, .int .i64 0, .int .i64 0, .int .i64 0, .int .i64 0, .int .i64 0, .int .i64 0, .int .i64 0] := by
  unfold cntCells; rw [cntK_zero]; rfl
theorem cntCells_get (ls : List Int) (k m : Nat) (h : m < 16) : (cntCells ls k)[m]? = some (.int .i64 ((eqUp ls (m : Int) k : Nat) : Int)) := by
  unfold cntCells
  rw [List.getElem?_toArray, List.getElem?_map, cntK_get ls k m h]; rfl
theorem cntCells_next (ls : List Int) (k m : Nat) (h : ln ls k = m) (hm : m < 16) : (cntCells ls k).setIfInBounds m (.int .i64 (((eqUp ls (m : Int) k : Nat) : Int) + 1)) = cntCells ls (k + 1) := by
  unfold cntCells
  apply Array.ext'
  rw [Array.toList_setIfInBounds]
  show ((cntK ls k).map (fun x => Value.int .i64 x)).set m _ = (cntK ls (k + 1)).map (fun x => Value.int .i64 x)
  rw [← cntK_next ls k m h hm, List.map_set]
theorem rd_codes2 {ls : List Int} {k : Nat} (hk : k < ls.length) (h : 0 < ln ls k) : rd (codesS ls) (k : Int) = codeS ls k := by
  unfold rd
  rw [Int.toNat_natCast, List.getD_eq_getElem?_getD, codesS_get _ _ hk, if_pos h]; rfl
def SymPost (g : Nat) (X : Option Addr) (bs : List Int) (p n s : Nat) (w : World) (e : Ending) (w' : World) : Prop :=
  (p + n ≤ 8 * bs.length → e = .returned (.int .i64 s) ∧ Eye w' g X bs (p + n) false) ∧ (8 * bs.length < p + n → e = .returned (.int .i64 (-1)) ∧ Eye w' g X bs (8 * bs.length) true) ∧ Mods [g] w w'

set_option maxHeartbeats 1000000 in
theorem symbol_in (g : Nat) (ls : List Int) (A : Option Addr) (c : Nat) (C : Option Addr) (cc : Nat) (X : Option Addr) (bs : List Int) (p n s : Nat) (w : World) (HR : ReadsInt w .i64 A ls.length ls) (HC : ReadsInt w .u32 C ls.length (codesS ls)) (hA : ∀ ad, A = some ad → ad.block ≠ g) (hC : ∀ ad, C = some ad → ad.block ≠ g) (hn : ls.length ≤ 17592186044416) (hz : checkS ls = 0) (h1 : (oneS ls).2 = false) (h : Eye w g X bs p false) (hf : Found ls bs p n s) :
    Calls Try.prog 28 #[.slice A ls.length c, .slice C ls.length cc, .pointer (some ⟨g, 0, none⟩)] w (SymPost g X bs p n s w) := by
  have HRR := Lib.hid HR; have HCC := Lib.hid HC; have HZ := Lib.hid hz; have HF := Lib.hid hf; have H := Lib.hid h; have HA := Lib.hid hA; have HCn := Lib.hid hC; have H1 := Lib.hid h1
  obtain ⟨x, HX⟩ : ∃ v, Hid ((oneS ls).1 = v) := ⟨_, rfl⟩
  clear HR HC hz hf h hA hC h1
  go_enter Try.func28, Try.ntmps28
  go_wp2_with (go_at_call 39; refine (refOne_any A _ c ls w HRR.out hn).mono ?_; rintro e w' ⟨rfl, rfl⟩; rw [HX.out, H1.out])
  go_loop [10, 11] (fun m i => ∃ k : Nat, k ≤ ls.length ∧ i = .int .i64 k ∧ m = .int .i64 (lgUp ls k)) (fun _ i => ls.length - (intOf i).toNat)
  case atStart => exact ⟨0, by omega, rfl, rfl⟩
  case round =>
    obtain ⟨k, hk, rfl, rfl⟩ := hrel
    have hlg := lgUp_bounds HZ.out k
    by_cases hlt : k < ls.length
    · obtain ⟨ad, hA, hcell⟩ := ReadsInt.at_ HRR.out (k : Int) (by omega) (by omega)
      rw [Int.toNat_natCast, rd_ln] at hcell
      subst hA
      by_cases hm : lgUp ls k < ln ls k
      · have HS := Lib.hid (show lgUp ls (k + 1) = ln ls k from by simp only [lgUp]; rw [if_pos hm])
        go_wp2_with fail
        go_round
        case rel => exact ⟨k + 1, by omega, by go_num, by rw [HS.out]⟩
        case measure => simp [intOf]; omega
      · have HS := Lib.hid (show lgUp ls (k + 1) = lgUp ls k from by simp only [lgUp]; rw [if_neg hm])
        go_wp2_with fail
        go_round
        case rel => exact ⟨k + 1, by omega, by go_num, by rw [HS.out]⟩
        case measure => simp [intOf]; omega
    · obtain rfl : k = ls.length := by omega
      go_wp2_with fail
      have hblk : (w.alloc (.cells (cntCells ls 0) 80)).heap[w.heap.size]? = some (.cells (cntCells ls 0) 80 (0, 0)) := blk_alloc _
      have hM0 : Mods [] w (w.alloc (.cells (cntCells ls 0) 80)) := (Mods.refl [] w).alloc _
      rw [← cntCells_zero ls]
      have hgb : g ≠ w.heap.size := by have := H.out.lt; omega
      have HGB := Lib.hid hgb
      generalize w.alloc (.cells (cntCells ls 0) 80) = w0 at *
      generalize hbb : w.heap.size = b at *
      have HBK := Lib.hid hblk; have HM0 := Lib.hid hM0; have HBB := Lib.hid hbb
      clear hblk hM0 hbb hgb
      go_loopw [13] (fun i wr => ∃ k : Nat, k ≤ ls.length ∧ i = .int .i64 k ∧ Hid (wr.heap[b]? = some (.cells (cntCells ls k) 80 (0, 0))) ∧ Hid (Mods [] w wr)) (fun i _ => ls.length - (intOf i).toNat)
      case atStart => exact ⟨0, by omega, rfl, HBK.out, HM0.out⟩
      case round =>
        obtain ⟨k, hk, rfl, HK, HM⟩ := hrel
        by_cases hlt : k < ls.length
        · obtain ⟨ad, hA, hcell⟩ := ReadsInt.at_ (ReadsInt.mods HRR.out HM.out (by simp)) (k : Int) (by omega) (by omega)
          rw [Int.toNat_natCast, rd_ln] at hcell
          subst hA
          obtain ⟨hl0, hl1⟩ := (complete HZ.out).1 k
          obtain ⟨m, hm⟩ := Int.eq_ofNat_of_zero_le hl0
          have HMK := Lib.hid hm
          rw [hm] at hcell
          have hm15 : m < 16 := by omega
          have hcm : wr.cell? ⟨b, m, none⟩ = some (.int .i64 (eqUp ls m k : Nat)) := by rw [cell_blk HK.out]; exact cntCells_get ls k m hm15
          have hfm : wr.frozen? ⟨b, m, none⟩ = false := free_blk HK.out _
          have hle := eqUp_le ls m k
          generalize hq : eqUp ls m k = q at *
          have HQ := Lib.hid hq
          have hmi : (m : Int) < 16 := by omega
          have hmt : ((m : Int)).toNat = m := by omega
          have hbk6 := blk_set HK.out m (.int .i64 ((q : Int) + 1))
          rw [show (cntCells ls k).setIfInBounds m (.int .i64 ((q : Int) + 1)) = cntCells ls (k + 1) from by rw [← HQ.out]; exact cntCells_next ls k m HMK.out hm15] at hbk6
          have HBK6 := Lib.hid hbk6; have HM6 := Lib.hid (HM.out.setCell (p := ⟨b, m, none⟩) (.inr (by rw [HBB.out]; exact Nat.le_refl _)) (.int .i64 ((q : Int) + 1)))
          clear hm hl0 hl1 hq hbk6
          go_wp2_with fail
          go_roundw
          case rel => exact ⟨k + 1, by omega, by go_num, HBK6.out, HM6.out⟩
          case measure => simp [intOf]; omega
        · obtain rfl : k = ls.length := by omega
          go_wp2_with fail
          have hl0 := upTo_zero ls
          go_loopw [9, 14, 15, 16] (fun v f i _ wr => ∃ m : Nat, m < n ∧ p + m ≤ 8 * bs.length ∧ i = .int .i64 (m + 1 : Nat) ∧ f = .int .u32 (upTo ls m ls.length) ∧ v = .int .u32 (vAt bs p m) ∧ Hid (wr.heap[b]? = some (.cells (cntCells ls ls.length) 80 (0, 0))) ∧ Hid (Eye wr g X bs (p + m) false) ∧ Hid (Mods [g] w wr)) (fun _ _ i _ _ => 16 - (intOf i).toNat)
          case atStart => exact ⟨0, by have := HF.out.1; omega, by have := H.out.1; omega, rfl, by rw [show ((0 : Nat) : Int) = 0 from rfl, hl0], rfl, HK.out, H.out.mods HM.out (by simp) (by simp), HM.out.mono (by simp)⟩
          case round =>
            obtain ⟨m, hm, hpm, rfl, rfl, rfl, HK, HE, HM⟩ := hrel
            have hn15 := HF.out.2.1
            have hv := vAt_bounds bs p m
            have hpw : (2 : Int) ^ m ≤ 2 ^ 15 := by exact_mod_cast Nat.pow_le_pow_right (by decide) (by omega)
            have hu1 := upTo_lt HZ.out m ls.length (by omega)
            have hu0 := upTo_nonneg ls m ls.length
            have hb := bitAt_bounds bs (p + m)
            have hlong : ((m + 1 : Nat) : Int) ≤ lgUp ls ls.length := by
              have h1 := lgUp_ge ls ls.length s HF.out.2.2.1
              have h2 := HF.out.2.2.2.1
              omega
            by_cases hmore : p + m + 1 ≤ 8 * bs.length
            · have hbv := Lib.hid (bitsVal_one bs (p + m))
              go_wp2_with fail
              refine (num_to (bitAt bs (p + m)) g X bs (p + m) 1 wr hbv (by omega) (by omega) (by omega) HE.out).mono ?_
              rintro e w2 ⟨rfl, hE2, hM2⟩
              have hk2 := hM2.blk HK.out (by have := HGB.out; simp; omega)
              have hsh : w2.cell? ⟨g, 2, none⟩ = some (.bool false) := by obtain ⟨_, _, ⟨_, h⟩, _⟩ := hE2; exact cell_blk h 2
              have hcm : w2.cell? ⟨b, m + 1, none⟩ = some (.int .i64 (eqUp ls (m + 1 : Nat) ls.length : Nat)) := by rw [cell_blk hk2]; exact cntCells_get ls _ (m + 1) (by omega)
              have hu2 : upTo ls (m + 1 : Nat) 0 = upTo ls m ls.length * 2 := upTo_next ls m
              have hu3 := upTo_eq ls (m + 1 : Nat) (by omega) ls.length (Nat.le_refl _)
              have hV : vAt bs p (m + 1) = vAt bs p m * 2 + bitAt bs (p + m) := rfl
              have hel := eqUp_le ls (m + 1 : Nat) ls.length
              have hu4 := upTo_lt HZ.out (m + 1) ls.length (by omega)
              have hnf := HF.out.2.2.2.2.2 (m + 1) (by omega)
              have HE2 := Lib.hid hE2; have HK2 := Lib.hid hk2; have HM2 := Lib.hid (HM.out.trans hM2)
              clear hE2 hk2 hM2
              by_cases hlast : m + 1 = n
              · have hcode := HF.out.2.2.2.2.1
                have hus := upTo_code ls s
                rw [HF.out.2.2.2.1, upTo_eq ls n (by omega) s (by have := HF.out.2.2.1; omega)] at hus
                have hlt1 : eqUp ls n s < eqUp ls n ls.length := by
                  have h1 := eqUp_mono ls n (show s + 1 ≤ ls.length from HF.out.2.2.1)
                  rw [eqUp_hit ls n s HF.out.2.2.2.1] at h1; omega
                rw [← hlast] at hus hcode hlt1
                have HEf := Lib.hid (show Eye w2 g X bs (p + n) false from by rw [← hlast, ← Nat.add_assoc]; exact HE2.out)
                have HFL := Lib.hid (show ln ls s = ((m + 1 : Nat) : Int) from by rw [HF.out.2.2.2.1, hlast])
                have HVC := Lib.hid (show codeS ls s = vAt bs p m * 2 + bitAt bs (p + m) from hcode)
                have hsl : s < ls.length := HF.out.2.2.1
                have HOUT := Lib.hid (show p + n ≤ 8 * bs.length from by omega)
                clear hnf hlast
                rw [hV] at hcode
                generalize vAt bs p m = V at *
                generalize upTo ls m ls.length = U at *
                generalize upTo ls (m + 1 : Nat) ls.length = U2 at *
                generalize upTo ls (m + 1 : Nat) 0 = U3 at *
                generalize eqUp ls (m + 1 : Nat) ls.length = cn at *
                generalize eqUp ls (m + 1 : Nat) s = es at *
                generalize bitAt bs (p + m) = bt at *
                clear hV
                have hd : V * 2 + bt < U * 2 + (cn : Int) := by omega
                clear hcode hus
                go_wp2_with fail
                go_loop [16] (fun i => ∃ k : Nat, k ≤ s ∧ i = .int .i64 k) (fun i => ls.length - (intOf i).toNat)
                case atStart => exact ⟨0, by omega, rfl⟩
                case round =>
                  obtain ⟨k, hks, rfl⟩ := hrel
                  obtain ⟨ad, hAd, hcell0⟩ := ReadsInt.at_ (ReadsInt.mods HRR.out HM2.out (fun d e => by simpa using HA.out d e)) (k : Int) (by omega) (by omega)
                  rw [Int.toNat_natCast, rd_ln] at hcell0
                  obtain ⟨bd, hBd, hcell1⟩ := ReadsInt.at_ (ReadsInt.mods HCC.out HM2.out (fun d e => by simpa using HCn.out d e)) (k : Int) (by omega) (by omega)
                  rw [Int.toNat_natCast] at hcell1
                  subst hAd
                  subst hBd
                  have hki : (k : Int) < (ls.length : Int) := by omega
                  by_cases hkeq : k = s
                  · have HKS := Lib.hid hkeq
                    have hl1 : (ln ls k == (m : Int) + 1) = true := by rw [hkeq, HFL.out]; simp
                    have hpos : 0 < ln ls s := by rw [HFL.out]; omega
                    rw [hkeq, rd_codes2 hsl hpos, HVC.out, ← hkeq] at hcell1
                    clear hkeq hpos
                    go_wp2_with fail
                    go_ret
                    rw [HKS.out]
                    exact ⟨fun _ => ⟨rfl, HEf.out⟩, fun h => by have := HOUT.out; omega, HM2.out⟩
                  · by_cases hkl : ln ls k = ((m : Int) + 1)
                    · have hl1 : (ln ls k == (m : Int) + 1) = true := by rw [hkl]; simp
                      have hpos : 0 < ln ls k := by rw [hkl]; omega
                      rw [rd_codes2 (by omega) hpos] at hcell1
                      have hap := code_apart (ls := ls) (i := k) (k := s) (by omega) (by rw [ahead_iff, HFL.out]; omega)
                      rw [hkl, HFL.out, show (((m + 1 : Nat) : Int) - ((m : Int) + 1)).toNat = 0 from by omega, HVC.out] at hap
                      have hl2 : (codeS ls k == V * 2 + bt) = false := by simp at hap ⊢; omega
                      clear hkl hpos hap
                      go_wp2_with fail
                      go_round
                      case rel => exact ⟨k + 1, by omega, by go_num⟩
                      case measure => simp [intOf]; omega
                    · have hl1 : (ln ls k == (m : Int) + 1) = false := by simp [hkl]
                      clear hkl
                      go_wp2_with fail
                      go_round
                      case rel => exact ⟨k + 1, by omega, by go_num⟩
                      case measure => simp [intOf]; omega
              · have hnf1 := hnf (by omega)
                generalize hgV' : vAt bs p (m + 1) = V' at *
                generalize vAt bs p m = V at *
                generalize upTo ls m ls.length = U at *
                generalize hgU2 : upTo ls (m + 1 : Nat) ls.length = U2 at *
                generalize upTo ls (m + 1 : Nat) 0 = U3 at *
                generalize eqUp ls (m + 1 : Nat) ls.length = cn at *
                generalize bitAt bs (p + m) = bt at *
                subst hV
                have hd : ¬ V * 2 + bt < U * 2 + (cn : Int) := by omega
                have HG1 := Lib.hid hgV'; have HG2 := Lib.hid hgU2
                have HE' := Lib.hid (show U * 2 + (cn : Int) = U2 from by omega)
                clear hgV' hgU2 hnf
                go_wp2_with fail
                go_roundw
                case rel => exact ⟨m + 1, by omega, by omega, by go_num, by rw [HG2.out, ← HE'.out], by rw [HG1.out], HK2.out, HE2.out, HM2.out⟩
                case measure => simp [intOf]; omega
            · go_wp2_with fail
              refine (num_out g X bs (p + m) false 1 wr (.inr (by omega)) (by omega) (by omega) HE.out).mono ?_
              rintro e w2 ⟨rfl, hE2, hM2⟩
              have hsh : w2.cell? ⟨g, 2, none⟩ = some (.bool true) := by obtain ⟨_, _, ⟨_, h⟩, _⟩ := hE2; exact cell_blk h 2
              have e8 : p + m = 8 * bs.length := by omega
              have HE2 := Lib.hid (show Eye w2 g X bs (8 * bs.length) true from by rw [← e8]; exact hE2); have HM2 := Lib.hid (HM.out.trans hM2)
              have HOUT := Lib.hid (show 8 * bs.length < p + n from by omega)
              clear hE2 hM2 e8
              go_wp2_with fail
              go_ret
              exact ⟨fun h => by have := HOUT.out; omega, fun _ => ⟨rfl, HE2.out⟩, HM2.out⟩
end Go.Proofs.Ytbljoihnjhllhaa

/- The reference's Eye, of any bits and behind an end of them: a number; the next symbol. -/
namespace Go.Proofs.Ytbljoihnjhllhaa
open Go.RowKit
open Go.Proofs.YtbljoihnjhllhaaW.PrintWords
open Srt

/-- An Eye at place p; e tells whether bits ran out. -/
def EyE (w : World) (g : Nat) (A : Option Addr) (bs : List Int) (p : Nat) (e : Int) : Prop := ∃ q, Eye w g A bs q (decide (e ≠ 0)) ∧ (e = 0 → q = p)
theorem EyE.mods {S : List Nat} {w w' : World} {g : Nat} {A : Option Addr} {bs : List Int} {p : Nat} {e : Int} (h : EyE w g A bs p e) (hm : Mods S w w') (hg : g ∉ S) (hs : ∀ ad, A = some ad → ad.block ∉ S) : EyE w' g A bs p e := by
  obtain ⟨q, hq, h0⟩ := h
  exact ⟨q, hq.mods hm hg hs, h0⟩
theorem EyE.fine {w : World} {g : Nat} {A : Option Addr} {bs : List Int} {p : Nat} (h : EyE w g A bs p 0) : Eye w g A bs p false := by
  obtain ⟨q, hq, h0⟩ := h
  rw [h0 rfl] at hq
  exact hq
theorem EyE.lt {w : World} {g : Nat} {A : Option Addr} {bs : List Int} {p : Nat} {e : Int} (h : EyE w g A bs p e) : g < w.heap.size := by
  obtain ⟨q, hq, _⟩ := h; exact hq.lt
theorem EyE.short {w : World} {g : Nat} {A : Option Addr} {bs : List Int} {p : Nat} {e : Int} (h : EyE w g A bs p e) : w.cell? ⟨g, 2, none⟩ = some (.bool (decide (e ≠ 0))) := by
  obtain ⟨q, hq, _⟩ := h
  obtain ⟨_, _, ⟨c, hb⟩, _⟩ := hq
  rw [cell_blk hb]; rfl
theorem num_e (g : Nat) (A : Option Addr) (bs : List Int) (p : Nat) (e : Int) (k : Nat) (w : World) (h : EyE w g A bs p e) (he : e = 0 ∨ e = 2) (hk : 0 < k) (hk2 : k ≤ 60) :
    Calls Try.prog 26 #[.pointer (some ⟨g, 0, none⟩), .int .i64 k] w fun en w' => ∃ v p' e', en = .returned (.int .i64 v) ∧ EyE w' g A bs p' e' ∧ Mods [g] w w' ∧ NumR bs p e k v p' e' ∧ 0 ≤ v ∧ v < 2 ^ k ∧ (e' = 0 ∨ e' = 2) := by
  obtain ⟨q, hq, h0⟩ := h
  rcases he with rfl | rfl
  · obtain rfl := h0 rfl
    by_cases hp : q + k ≤ 8 * bs.length
    · refine (num_in g A bs q k w hp hk hk2 hq).mono ?_
      rintro en w' ⟨rfl, hE, hM⟩
      exact ⟨_, q + k, 0, rfl, ⟨q + k, hE, fun _ => rfl⟩, hM, .inr (.inr ⟨rfl, hp, rfl, rfl, rfl⟩), bitsVal_nonneg _ _ _, bitsVal_lt _ _ _, .inl rfl⟩
    · refine (num_out g A bs q false k w (.inr (by omega)) hk hk2 hq).mono ?_
      rintro en w' ⟨rfl, hE, hM⟩
      exact ⟨0, q, 2, rfl, ⟨q, hE, fun h => by cases h⟩, hM, .inr (.inl ⟨rfl, by omega, rfl, rfl, rfl⟩), Int.le_refl _, pow_pos_int k, .inr rfl⟩
  · refine (num_out g A bs q true k w (.inl rfl) hk hk2 hq).mono ?_
    rintro en w' ⟨rfl, hE, hM⟩
    exact ⟨0, p, 2, rfl, ⟨q, hE, fun h => by cases h⟩, hM, .inl ⟨by decide, rfl, rfl, rfl⟩, Int.le_refl _, pow_pos_int k, .inr rfl⟩
/-- The next symbol, or -1. -/
theorem sym_e (g : Nat) (ls : List Int) (A : Option Addr) (c : Nat) (C : Option Addr) (cc : Nat) (X : Option Addr) (bs : List Int) (p n s : Nat) (w : World) (HR : ReadsInt w .i64 A ls.length ls) (HC : ReadsInt w .u32 C ls.length (codesS ls)) (hA : ∀ ad, A = some ad → ad.block ≠ g) (hC : ∀ ad, C = some ad → ad.block ≠ g) (hn : ls.length ≤ 17592186044416) (hz : checkS ls = 0) (hs : Sym ls bs p n s) (h : EyE w g X bs p 0) :
    Calls Try.prog 28 #[.slice A ls.length c, .slice C ls.length cc, .pointer (some ⟨g, 0, none⟩)] w (fun en w' => Mods [g] w w' ∧ ((p + n ≤ 8 * bs.length ∧ en = .returned (.int .i64 s) ∧ EyE w' g X bs (p + n) 0) ∨ (8 * bs.length < p + n ∧ en = .returned (.int .i64 (-1)) ∧ EyE w' g X bs p 2))) := by
  have hE := h.fine
  rcases hs with ⟨h1, h2, h3⟩ | ⟨h1, hf⟩
  · refine (symbol_one g ls A c C cc X bs p false w HR hn h1 hE).mono ?_
    rintro en w' ⟨rfl, rfl⟩
    subst h2
    exact ⟨Mods.refl _ _, .inl ⟨hE.1, by rw [← h3]; rfl, h⟩⟩
  · refine (symbol_in g ls A c C cc X bs p n s w HR HC hA hC hn hz h1 hE hf).mono ?_
    rintro en w' ⟨ha, hb, hM⟩
    refine ⟨hM, ?_⟩
    by_cases hp : p + n ≤ 8 * bs.length
    · obtain ⟨e1, e2⟩ := ha hp
      exact .inl ⟨hp, e1, ⟨p + n, e2, fun _ => rfl⟩⟩
    · obtain ⟨e1, e2⟩ := hb (by omega)
      exact .inr ⟨by omega, e1, ⟨_, e2, fun h => by cases h⟩⟩
end Go.Proofs.Ytbljoihnjhllhaa
