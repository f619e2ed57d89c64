/- What the reference's reader of bits does. -/
import Derived.Test.YtoanhnebalapeaaChecked
import Derived.Test.YtoanhnebalapeaaTypes
import Derived.Test.YtoanhnebalapeaaBitsP
namespace Go.Proofs.Ytoanhnebalapeaa
open Go.RowKit
open Go.Proofs.YtoanhnebalapeaaW.PrintWords

/-- The first n bits of bytes as a list. -/
def bitList (bs : List Int) (n : Nat) : List Int := (List.range n).map (bitAt bs)
theorem bitList_length (bs : List Int) (n : Nat) : (bitList bs n).length = n := by simp [bitList]
theorem bitList_succ (bs : List Int) (n : Nat) : bitList bs (n + 1) = bitList bs n ++ [bitAt bs n] := by simp [bitList, List.range_succ]
theorem bitList_get (bs : List Int) (n i : Nat) (h : i < n) : (bitList bs n).getD i 0 = bitAt bs i := by
  simp [bitList, List.getD_eq_getElem?_getD, List.getElem?_map, List.getElem?_range h]


set_option maxHeartbeats 1000000 in
theorem refBits_any (A : Option Addr) (n c : Nat) (bs : List Int) (w : World) (HR : ReadsInt w .u8 A n bs) (hb : ∀ x ∈ bs, 0 ≤ x ∧ x ≤ 255) (hn : 8 * n ≤ 140737488351232) :
    Calls Try.prog 74 #[.slice A n c] w fun e w' => ∃ v, e = .returned v ∧ w'.ownsRow w.heap.size 5 1 v (8 * n) (nums .u8 (bitList bs (8 * n))) ∧ Below w.heap.size w w' := by
  have HR := Lib.hid HR; have HX := Lib.hid hb
  clear hb
  go_enter Try.func74, Try.ntmps74
  go_wp2
  go_loopw [3, 4, 5, 6] (fun v i x y wr => ∃ j : Nat, j ≤ n ∧ i = .int .i64 j ∧ wr.ownsRow w.heap.size 5 1 v (8 * j) (nums .u8 (bitList bs (8 * j))) ∧ Below w.heap.size w wr) (fun _ i _ _ _ => n - (intOf i).toNat)
  case atStart => exact ⟨0, by omega, rfl, own_nil _ _ _ _, Below.refl _ _⟩
  case round =>
    obtain ⟨j, hj, rfl, hO, hB⟩ := hrel
    have HO := Lib.hid hO; have HB := Lib.hid hB
    clear hO hB
    by_cases hlt : j < n
    · obtain ⟨ad, hA, hcell0⟩ := ReadsInt.at_ HR.out (j : Int) (by omega) (by omega)
      have hcell := pw_cell_below HB.out hcell0
      rw [Int.toNat_natCast] at hcell
      clear hcell0
      subst hA
      have hxb : 0 ≤ rd bs j ∧ rd bs j ≤ 255 := HX.out _ (by unfold rd; rw [List.getD_eq_getElem?_getD, Int.toNat_natCast, List.getElem?_eq_getElem (by have := HR.out.1; omega)]; exact List.getElem_mem _)
      obtain ⟨wo, hwo⟩ : ∃ wo : World, wo = wr := ⟨_, rfl⟩
      subst hwo
      generalize hb0 : rd bs j = b0 at *
      have HB0 := Lib.hid hb0; clear hb0
      go_wp2
      go_loopw [3, 5, 6] (fun v x i wr => ∃ k : Nat, k ≤ 8 ∧ i = .int .i64 k ∧ (∃ y : Int, x = .int .u8 y ∧ 0 ≤ y ∧ y ≤ 255 ∧ Hid (y = b0 / 2 ^ k)) ∧ wr.ownsRow w.heap.size 5 1 v (8 * j + k) (nums .u8 (bitList bs (8 * j + k))) ∧ Below w.heap.size w wr) (fun _ _ i _ => 8 - (intOf i).toNat)
      case atStart => exact ⟨0, by omega, rfl, ⟨b0, rfl, hxb.1, hxb.2, by simp [Hid]⟩, HO.out, HB.out⟩
      case round =>
        obtain ⟨k, hk, rfl, ⟨y, rfl, hy0, hy1, HY⟩, hO, hB⟩ := hrel
        have HO := Lib.hid hO; have HB := Lib.hid hB
        clear hO hB
        by_cases hlt2 : k < 8
        · go_wp2_with (at_builtin; refine print_append_num w.heap.size rfl _ _ 22 5 .u8 1 rfl Try.underlying22 info_u8 (by decide) _ (bitList bs (8 * j + k)) (y % 2) rfl rfl (by rw [bitList_length]; exact HO.out) HB.out HB.out.size (by rw [bitList_length]; omega) ?_)
          intro v1 w1 hown hB1 hg hat
          have HO1 := Lib.hid hown; have HB1 := Lib.hid hB1
          clear hown hB1 hg hat
          go_wp2
          go_roundw
          case rel =>
            have hbit : bitAt bs (8 * j + k) = y % 2 := by
              unfold bitAt
              rw [show (8 * j + k) / 8 = j from by omega, show (8 * j + k) % 8 = k from by omega, HY.out, ← HB0.out]
              unfold rd; rw [List.getD_eq_getElem?_getD]; rfl
            refine ⟨k + 1, by omega, by go_num, ⟨y / 2, ?_, by omega, by omega, ?_⟩, ?_, HB1.out⟩
            · congr 1
            · show y / 2 = _
              rw [HY.out, Int.pow_succ, Int.ediv_ediv_of_nonneg (Int.le_of_lt (by exact_mod_cast Nat.two_pow_pos k))]
            · have h := HO1.out
              rw [← hbit, ← bitList_succ, bitList_length] at h
              exact h
          case measure => simp [intOf]; omega
        · have hk8 : k = 8 := by omega
          have hO8 := HO.out
          rw [hk8, show 8 * j + 8 = 8 * (j + 1) from by omega] at hO8
          have HO8 := Lib.hid hO8; clear hO8 hk8
          go_wp2
          go_roundw
          case rel => exact ⟨j + 1, by omega, by go_num, HO8.out, HB.out⟩
          case measure => simp [intOf]; omega
    · have hjn : j = n := by omega
      have hO := HO.out
      rw [hjn] at hO
      have HO2 := Lib.hid hO; clear hO hjn
      go_wp2
      go_ret
      exact ⟨_, rfl, HO2.out, HB.out⟩

/-- Block g is the reference's reader of the bytes bs, p bits of which are read; sh: they ran out. -/
def Eye (w : World) (g : Nat) (A : Option Addr) (bs : List Int) (p : Nat) (sh : Bool) : Prop :=
  p ≤ 8 * bs.length ∧ 8 * bs.length ≤ 140737488351232 ∧ (∃ c, w.heap[g]? = some (.cells #[.slice A (8 * bs.length) c, .int .i64 p, .bool sh] 109 (0, 0))) ∧ ReadsInt w .u8 A (8 * bs.length) (bitList bs (8 * bs.length)) ∧ ∀ ad, A = some ad → ad.block ≠ g
theorem Eye.lt {w : World} {g : Nat} {A : Option Addr} {bs : List Int} {p : Nat} {sh : Bool} (h : Eye w g A bs p sh) : g < w.heap.size := by
  obtain ⟨_, _, ⟨c, hb⟩, _⟩ := h
  exact blk_lt hb
theorem Eye.mods {S : List Nat} {w w' : World} {g : Nat} {A : Option Addr} {bs : List Int} {p : Nat} {sh : Bool} (h : Eye w g A bs p sh) (hm : Mods S w w') (hg : g ∉ S) (hs : ∀ ad, A = some ad → ad.block ∉ S) : Eye w' g A bs p sh := by
  obtain ⟨h1, h2, ⟨c, hb⟩, hr, hn⟩ := h
  exact ⟨h1, h2, ⟨c, hm.blk hb hg⟩, ReadsInt.mods hr hm hs, hn⟩

set_option maxHeartbeats 400000 in
theorem look_any (A : Option Addr) (n c : Nat) (bs : List Int) (w : World) (HR : ReadsInt w .u8 A n bs) (hb : ∀ x ∈ bs, 0 ≤ x ∧ x ≤ 255) (hn : 8 * n ≤ 140737488351232) :
    Calls Try.prog 39 #[.slice A n c] w fun e w' => ∃ g A', e = .returned (.pointer (some ⟨g, 0, none⟩)) ∧ w.heap.size ≤ g ∧ (∀ ad, A' = some ad → w.heap.size ≤ ad.block) ∧ Eye w' g A' bs 0 false ∧ Below w.heap.size w w' := by
  have HRR := Lib.hid HR; have HX := Lib.hid hb
  have hl := HR.1
  clear hb HR
  have HL := Lib.hid hl; clear hl
  go_enter Try.func39, Try.ntmps39
  go_wp2_with (go_at_call 74; refine (refBits_any A n c bs w HRR.out HX.out hn).mono ?_; rintro e w1 ⟨v, rfl, hown, hB⟩; obtain ⟨A1, c1, rfl, hr1⟩ := own_reads hown; have HO := Lib.hid hown; have HB := Lib.hid hB; have HR1 := Lib.hid hr1; clear hown hB hr1)
  go_ret
  have hfr : ∀ ad, A1 = some ad → w.heap.size ≤ ad.block := fun ad h => own_base HO.out ad.block (by rw [h]; rfl)
  have hlt : ∀ ad, A1 = some ad → ad.block < w1.heap.size := fun ad h => own_lt HO.out ad.block (by rw [h]; rfl)
  have hL := HL.out
  subst hL
  refine ⟨w1.heap.size, A1, rfl, HB.out.size, hfr, ⟨by omega, hn, ⟨c1, blk_alloc _⟩, ?_, fun ad h => ?_⟩, HB.out.alloc HB.out.size _⟩
  · exact ReadsInt.mods HR1.out (S := []) ((Mods.refl _ _).alloc _) (by simp)
  · have := hlt ad h; omega

set_option maxHeartbeats 400000 in
theorem num_out (g : Nat) (A : Option Addr) (bs : List Int) (p : Nat) (sh : Bool) (k : Nat) (w : World) (hp : sh = true ∨ 8 * bs.length < p + k) (hk : 0 < k) (hk2 : k ≤ 60) (h : Eye w g A bs p sh) :
    Calls Try.prog 63 #[.pointer (some ⟨g, 0, none⟩), .int .i64 k] w fun e w' => e = .returned (.int .i64 0) ∧ Eye w' g A bs p true ∧ Mods [g] w w' := by
  obtain ⟨hp', hl, ⟨c, hb⟩, hr, hn⟩ := h
  have h0 : w.cell? ⟨g, 0, none⟩ = some (.slice A (8 * bs.length) c) := cell_blk hb 0
  have h1 : w.cell? ⟨g, 1, none⟩ = some (.int .i64 p) := cell_blk hb 1
  have h2 : w.cell? ⟨g, 2, none⟩ = some (.bool sh) := cell_blk hb 2
  have f2 : w.frozen? ⟨g, 2, none⟩ = false := free_blk hb 2
  have HBk := Lib.hid hb; have HR := Lib.hid hr; have HN := Lib.hid hn
  clear hb hr hn
  have hk' : (0 : Int) < (k : Int) := by omega
  have fin : ∀ m, Eye ((w.drewN m).setCell ⟨g, 2, none⟩ (.bool true)) g A bs p true ∧ Mods [g] w ((w.drewN m).setCell ⟨g, 2, none⟩ (.bool true)) := fun m => by
    refine ⟨⟨hp', hl, ⟨c, ?_⟩, ?_, HN.out⟩, ((Mods.refl _ _).drewN _).setCell (by simp) _⟩
    · rw [blk_set (w := w.drewN m) (by rw [heap_drewN]; exact HBk.out)]
      simp
    · refine ReadsInt.mods HR.out (S := [g]) (((Mods.refl _ _).drewN _).setCell (by simp) _) ?_
      intro ad' h'; have := HN.out ad' h'; simpa using this
  have FIN := Lib.hid fin; clear fin
  cases sh
  · have hq : ((8 * bs.length : Nat) : Int) - (p : Int) < (k : Int) := by simp at hp; omega
    clear hp
    go_enter Try.func63, Try.ntmps63
    go_wp2
    go_quiet (fail)
    go_wp2
    go_ret
    exact ⟨rfl, FIN.out _⟩
  · clear hp
    go_enter Try.func63, Try.ntmps63
    go_wp2
    go_quiet (fail)
    go_wp2
    go_ret
    exact ⟨rfl, FIN.out _⟩

set_option maxHeartbeats 1000000 in
theorem num_in (g : Nat) (A : Option Addr) (bs : List Int) (p : Nat) (k : Nat) (w : World) (hp : p + k ≤ 8 * bs.length) (hk : 0 < k) (hk2 : k ≤ 60) (h : Eye w g A bs p false) :
    Calls Try.prog 63 #[.pointer (some ⟨g, 0, none⟩), .int .i64 k] w fun e w' => e = .returned (.int .i64 (bitsVal bs p k)) ∧ Eye w' g A bs (p + k) false ∧ Mods [g] w w' := by
  have H := Lib.hid h
  obtain ⟨hp', hl, ⟨c, hb⟩, hr, hn⟩ := h
  have h0 : w.cell? ⟨g, 0, none⟩ = some (.slice A (8 * bs.length) c) := cell_blk hb 0
  have h1 : w.cell? ⟨g, 1, none⟩ = some (.int .i64 p) := cell_blk hb 1
  have h2 : w.cell? ⟨g, 2, none⟩ = some (.bool false) := cell_blk hb 2
  clear hb hr hn
  have hk' : (0 : Int) < (k : Int) := by omega
  have hq : (k : Int) ≤ ((8 * bs.length : Nat) : Int) - (p : Int) := by omega
  go_enter Try.func63, Try.ntmps63
  go_wp2
  go_quiet (fail)
  go_wp2
  clear h0 h1 h2
  go_loopw [5, 6] (fun v i wr => ∃ j : Nat, j ≤ k ∧ i = .int .i64 j ∧ v = .int .i64 (bitsVal bs p j) ∧ Eye wr g A bs (p + j) false ∧ Mods [g] w wr) (fun _ i _ => k - (intOf i).toNat)
  case atStart => exact ⟨0, by omega, rfl, rfl, H.out.mods ((Mods.refl [] _).drewN _) (by simp) (by simp), (Mods.refl _ _).drewN _⟩
  case round =>
    obtain ⟨j, hj, rfl, rfl, h, hM⟩ := hrel
    have HE := Lib.hid h; have HM := Lib.hid hM
    obtain ⟨hp', hl, ⟨c, hb⟩, hr, hn⟩ := h
    have h0 : wr.cell? ⟨g, 0, none⟩ = some (.slice A (8 * bs.length) c) := cell_blk hb 0
    have h1 : wr.cell? ⟨g, 1, none⟩ = some (.int .i64 ((p + j : Nat) : Int)) := cell_blk hb 1
    have f1 : wr.frozen? ⟨g, 1, none⟩ = false := free_blk hb 1
    have HBk := Lib.hid hb; have HR := Lib.hid hr; have HN := Lib.hid hn
    clear hb hr hn hM
    by_cases hlt : j < k
    · obtain ⟨ad, hA, hcell⟩ := ReadsInt.at_ HR.out ((p + j : Nat) : Int) (by omega) (by omega)
      rw [Int.toNat_natCast] at hcell
      rw [hA] at h0
      have HA := Lib.hid hA; clear hA
      have hv0 := bitsVal_nonneg bs p j
      have hv1 := bitsVal_lt bs p j
      have hbb := bitAt_bounds bs (p + j)
      have hv2 : (2 : Int) ^ j ≤ 2 ^ 59 := by exact_mod_cast Nat.pow_le_pow_right (by decide) (show j ≤ 59 by omega)
      have hpj : (0 : Int) < 2 ^ j := by exact_mod_cast Nat.two_pow_pos j
      have hbit : rd (bitList bs (8 * bs.length)) ((p + j : Nat) : Int) = bitAt bs (p + j) := by unfold rd; rw [Int.toNat_natCast, bitList_get _ _ _ (by omega)]
      rw [hbit] at hcell
      have hm1 : bitAt bs (p + j) * 2 ^ j ≤ 1 * 2 ^ j := Int.mul_le_mul_of_nonneg_right hbb.2 (by omega)
      have hm0 : 0 ≤ bitAt bs (p + j) * 2 ^ j := Int.mul_nonneg hbb.1 (by omega)
      have HSTEP : Hid (bitsVal bs p (j + 1) = bitsVal bs p j + bitAt bs (p + j) * 2 ^ j) := rfl
      clear hbit
      generalize bitAt bs (p + j) = bt0 at *
      generalize bitsVal bs p j = v0 at *
      generalize hP : (2 : Int) ^ j = P at *
      have HP := Lib.hid hP; clear hP
      go_wp2
      go_quiet (fail)
      go_wp2
      go_roundw
      case rel =>
        have hP := HP.out
        refine ⟨j + 1, by omega, by go_num, ?_, ⟨by omega, hl, ⟨c, ?_⟩, ?_, HN.out⟩, (HM.out.drewN _).setCell (by simp) _⟩
        · rw [hP, w64 (bt0 * P) (by omega) (by omega), w64 _ (by omega) (by omega), HSTEP.out]
        · rw [blk_set (w := wr.drewN nq) (by rw [heap_drewN]; exact HBk.out)]
          simp [← Int.natCast_add]; omega
        · refine ReadsInt.mods HR.out (S := [g]) (((Mods.refl _ _).drewN _).setCell (by simp) _) ?_
          intro ad' h'; have := HN.out ad' h'; simpa using this
      case measure => simp [intOf]; omega
    · have hjk : j = k := by omega
      have h := HE.out
      have hM := HM.out
      rw [hjk] at h
      have HE2 := Lib.hid h
      have HJ := Lib.hid hjk
      clear h hM hjk HE
      go_wp2
      go_ret
      exact ⟨by rw [← HJ.out]; rfl, HE2.out, HM.out⟩

theorem num_to (v : Int) (g : Nat) (A : Option Addr) (bs : List Int) (p : Nat) (k : Nat) (w : World) (hv : Hid (bitsVal bs p k = v)) (hp : p + k ≤ 8 * bs.length) (hk : 0 < k) (hk2 : k ≤ 60) (h : Eye w g A bs p false) :
    Calls Try.prog 63 #[.pointer (some ⟨g, 0, none⟩), .int .i64 k] w fun e w' => e = .returned (.int .i64 v) ∧ Eye w' g A bs (p + k) false ∧ Mods [g] w w' := by
  rw [← hv.out]
  exact num_in g A bs p k w hp hk hk2 h

/-- No bits. -/
theorem num_zero (g : Nat) (w : World) (A : Option Addr) (bs : List Int) (p : Nat) (sh : Bool) (h : Eye w g A bs p sh) : Calls Try.prog 63 #[.pointer (some ⟨g, 0, none⟩), .int .i64 0] w fun e w' => e = .returned (.int .i64 0) ∧ Eye w' g A bs p sh ∧ Mods [g] w w' := by
  have HE := Lib.hid h; clear h
  have hd : decide ((0 : Int) < 0) = false := rfl
  go_enter Try.func63, Try.ntmps63
  go_wp2
  go_quiet (fail)
  go_wp2
  go_loopw [5, 6] (fun v i wr => i = .int .i64 0 ∧ v = .int .i64 0 ∧ Eye wr g A bs p sh ∧ Mods [g] w wr) (fun _ i _ => 0)
  case atStart => exact ⟨rfl, rfl, HE.out.mods ((Mods.refl [] _).drewN _) (by simp) (by simp), (Mods.refl _ _).drewN _⟩
  case round =>
    obtain ⟨rfl, rfl, h, hM⟩ := hrel
    have HE := Lib.hid h; have HM := Lib.hid hM
    clear h hM
    go_wp2
    go_ret
    exact ⟨rfl, HE.out, HM.out⟩
end Go.Proofs.Ytoanhnebalapeaa
