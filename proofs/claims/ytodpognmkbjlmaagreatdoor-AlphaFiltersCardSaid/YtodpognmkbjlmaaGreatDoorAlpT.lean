/- The reference's Filter. -/
import Derived.Test.YtodpognmkbjlmaaGreatDoorAlpR
namespace Go.Proofs.YtodpognmkbjlmaaGreatDoor
open Go.RowKit
open Go.Proofs.YtodpognmkbjlmaaGreatDoorW.PrintWords

theorem fil_facts (y W x t n : Nat) (ht : y * W + x = t) (htn : t < n) (hn : n ≤ 100000) : ∃ p : Nat, IntKind.i64.wrap ((y : Int) * (W : Int)) = (p : Int) ∧ wrap64 ((y : Int) * (W : Int)) = (p : Int) ∧ IntKind.i64.wrap ((p : Int) + (x : Int)) = (t : Int) ∧ wrap64 ((p : Int) + (x : Int)) = (t : Int) ∧ (0 : Int) ≤ (t : Int) ∧ (t : Int) < (n : Int) := by
  obtain ⟨p, hp⟩ : ∃ p, y * W = p := ⟨_, rfl⟩
  rw [hp] at ht
  have e0 : (y : Int) * (W : Int) = (p : Int) := by rw [← hp]; exact (Int.natCast_mul y W).symm
  rw [e0]
  exact ⟨p, IntWalk.i64_in _ (by omega), w64 _ (by omega) (by omega), by rw [IntWalk.i64_in _ (by omega)]; omega, by rw [w64 _ (by omega) (by omega)]; omega, by omega, by omega⟩

set_option maxHeartbeats 4000000 in
theorem refFilter_forth (W H f : Nat) (ad : Addr) (n c : Nat) (bs : List Int) (w : World) (HR : ReadsInt w .u8 (some ad) n bs) (hbs : ∀ v ∈ bs, 0 ≤ v ∧ v ≤ 255) (hn0 : 0 < n) (hn : n ≤ 100000) (hW : 1 ≤ W ∧ W ≤ 16384) (hWH : W * H = n) (hf : f ≤ 3) :
    Calls Tryz.prog 10 #[.slice (some ad) n c, .int .i64 W, .int .i64 H, .int .i64 f, .bool false] w fun e w' => Below w.heap.size w w' ∧ ∃ A2 c2, e = .returned (.slice A2 n c2) ∧ ReadsInt w' .u8 A2 n (Alp.foL f W bs n) := by
  have HBS := Lib.hid hbs; have HLN := Lib.hid HR.1; have HRW := Lib.hid HR; have HWH := Lib.hid hWH
  have hH : H ≤ n := by rw [← hWH]; exact Nat.le_mul_of_pos_left H (by omega)
  clear HR hbs hWH
  go_enter Tryz.func10, Tryz.ntmps10
  go_wp2_with (at_builtin; refine print_append_row w.heap.size rfl _ _ 22 5 .u8 1 rfl Tryz.underlying22 info_u8 (by decide) _ [] bs (some ad) n c rfl rfl (by exact own_lit w w.heap.size 5 .u8 [] (Nat.le_refl _) (by decide)) (by exact HRW.out.below ((Below.refl _ w).alloc (Nat.le_refl _) _)) ((Below.refl _ w).alloc (Nat.le_refl _) _) (by simp) (by simp; omega) ?_)
  intro v1 w1 hown hB1 _ _
  rw [HLN.out] at hown
  have hform : ∃ g cp, v1 = .slice (some ⟨g, 0, none⟩) n cp ∧ w.heap.size ≤ g ∧ g < w1.heap.size := some_own hown hn0
  obtain ⟨g, cp, rfl, hg1, hg2⟩ := hform
  rw [show bs = foS f W bs n 0 from (foS_zero f W bs n HLN.out).symm] at hown
  have HO1 := Lib.hid hown; have HB1 := Lib.hid hB1
  clear hown hB1
  go_wp2_with fail
  go_loopw [12, 13] (fun yv _ wr => ∃ y : Nat, y ≤ H ∧ yv = .int .i64 y ∧ Hid (wr.ownsRow w.heap.size 5 1 (.slice (some ⟨g, 0, none⟩) n cp) n (nums .u8 (foS f W bs n (y * W)))) ∧ Hid (Below w.heap.size w wr)) (fun yv _ _ => H - (intOf yv).toNat)
  case atStart => exact ⟨0, Nat.zero_le _, rfl, by rw [Nat.zero_mul]; exact HO1, HB1⟩
  case round =>
    clear HO1 HB1
    obtain ⟨y, hy, rfl, HO, HBr⟩ := hrel
    by_cases hyH : y < H
    · have k0 : decide ((y : Int) < (H : Int)) = true := decide_eq_true (by omega)
      go_wp2_with fail
      go_loopw [13] (fun xv wr => ∃ x : Nat, x ≤ W ∧ xv = .int .i64 x ∧ Hid (wr.ownsRow w.heap.size 5 1 (.slice (some ⟨g, 0, none⟩) n cp) n (nums .u8 (foS f W bs n (y * W + x)))) ∧ Hid (Below w.heap.size w wr)) (fun xv _ => W - (intOf xv).toNat)
      case atStart => exact ⟨0, Nat.zero_le _, rfl, HO, HBr⟩
      case round =>
        clear HO HBr
        obtain ⟨x, hx, rfl, HO, HBr⟩ := hrel
        by_cases hxW : x < W
        · obtain ⟨t, ht⟩ : ∃ t, y * W + x = t := ⟨_, rfl⟩
          rw [ht] at HO
          have htn : t < n := by
            have h1 : (y + 1) * W ≤ H * W := Nat.mul_le_mul_right W hyH
            have h2 := HWH.out
            rw [Nat.add_mul, Nat.one_mul, Nat.mul_comm H W, h2] at h1
            omega
          obtain ⟨p, i1, i2, i3, i4, k1, k2⟩ := fil_facts y W x t n ht htn hn
          have HTT := Lib.hid ht
          clear ht
          have k3 : decide ((x : Int) < (W : Int)) = true := decide_eq_true (by omega)
          obtain ⟨ct, ft⟩ := own_at HO.out (t : Int) k1 k2
          rw [foS_at f W bs n t htn, Int.toNat_natCast] at ct
          rw [Int.toNat_natCast] at ft
          obtain ⟨a', h', hcell⟩ := (HRW.out.below HBr.out).2.2 (by omega)
          cases h'
          have ca := hcell t htn
          have hset := foS_set f W bs n t htn
          have hgs := Alp.gs_le (f := f) (W := W) (t := t) (fun j => Alp.getD_255 HBS.out j)
          have hbv := Alp.getD_255 HBS.out t
          have GU := Lib.hid (fun wz (h : ReadsInt wz .u8 (some ad) n (bs)) => refGuess_any f W n c x y t (some ad) (bs) wz h HBS.out hxW HTT.out htn (by omega) hf)
          unfold Alp.fo at hset
          generalize Alp.gs f W (fun j => (bs).getD j 0) t = gv at *
          generalize bs.getD t 0 = bv at *
          have hset2 : (foS f W bs n t).set t ((bv + 256 - gv) % 256) = foS f W bs n (t + 1) := by rw [← hset]; congr 1; omega
          have HSET := Lib.hid hset2
          have j1 : IntKind.i64.wrap bv = bv := IntWalk.i64_in _ (by omega)
          have j2 : wrap64 bv = bv := w64 _ (by omega) (by omega)
          have j3 : IntKind.i64.wrap (bv + gv) = bv + gv := IntWalk.i64_in _ (by omega)
          have j4 : IntKind.i64.wrap (bv + 256) = bv + 256 := IntWalk.i64_in _ (by omega)
          have j5 : IntKind.i64.wrap (bv + 256 - gv) = bv + 256 - gv := IntWalk.i64_in _ (by omega)
          have j6 : wrap64 (bv + gv) = bv + gv := w64 _ (by omega) (by omega)
          have j7 : wrap64 (bv + 256) = bv + 256 := w64 _ (by omega) (by omega)
          have j8 : wrap64 (bv + 256 - gv) = bv + 256 - gv := w64 _ (by omega) (by omega)
          have hab : ad.block ≠ g := by
            have h1 := block_of HRW.out hn0
            omega
          have hsf : ∀ (q : Nat) v, ((wr.drewN q).setCell ⟨g, t, none⟩ v).drew.cell? (ad.add t) = some (.int .u8 bv) := fun q v => (World.cell?_setCell_far _ _ _ _ (by rw [add_block]; exact hab.symm)).trans (by simpa using ca)
          have hsf0 : ∀ v, (wr.setCell ⟨g, t, none⟩ v).drew.cell? (ad.add t) = some (.int .u8 bv) := fun v => (World.cell?_setCell_far _ _ _ _ (by rw [add_block]; exact hab.symm)).trans ca
          clear hset hset2 hcell
          go_upto_region 10 with fail
          go_region_held3 (fun w' => w'.cell? (ad.add t) = some (.int .u8 bv)) ((first | exact ca | exact hsf0 _ | exact hsf _ _ | (simpa using ca) | go_keep)) ((go_at_call 17; refine (GU.out _ (by first | exact (HRW.out.below HBr.out) | exact ReadsInt.drewN (HRW.out.below HBr.out) 1)).mono ?_; rintro e w5 ⟨rfl, q, rfl⟩))
          all_goals (
            have hB5 : Below wr.heap.size wr (wr.drewN (1 + q)) := pw_below_drewN (Below.refl _ _) _
            have HO5 := Lib.hid (pw_own_below HO.out hB5)
            have hm : Mods [g] (wr.drewN (1 + q)) ((wr.drewN (1 + q)).setCell ⟨g, t, none⟩ (.int .u8 ((bv + 256 - gv) % 256))) := (Mods.refl [g] _).setCell (p := ⟨g, t, none⟩) (.inl (by simp)) _
            have ho := (World.ownsRow.stored HO5.out t (.int .u8 ((bv + 256 - gv) % 256))).1
            rw [← nums_set8, HSET.out] at ho
            have HO6 := Lib.hid (show ((wr.drewN (1 + q)).setCell ⟨g, t, none⟩ (.int .u8 ((bv + 256 - gv) % 256))).ownsRow w.heap.size 5 1 (.slice (some ⟨g, 0, none⟩) n cp) n (nums .u8 (foS f W bs n (y * W + (x + 1)))) from by rw [← Nat.add_assoc, HTT.out]; exact ho)
            have HB5 := Lib.hid (Below.then_mods (below_then HBr.out HBr.out.size hB5) (by rw [heap_drewN]; exact HBr.out.size) hm (by intro s hs; obtain rfl := List.mem_singleton.1 hs; exact hg1))
            clear hB5 hm ho
            rw [show IntKind.u8.wrap (bv + 256 - gv) = ((bv + 256 - gv) % 256) from by simp [IntKind.wrap, IntKind.bits, IntKind.signed]]
            go_wp2_with fail
            go_roundw
            case rel => exact ⟨x + 1, by omega, by go_num, HO6.out, HB5.out⟩
            case measure => simp [intOf]; omega)
        · obtain rfl : x = W := by omega
          have k3 : decide ((x : Int) < (x : Int)) = false := by simp
          go_wp2_with fail
          go_roundw
          case rel => exact ⟨y + 1, by omega, by go_num, by rw [Nat.add_mul, Nat.one_mul]; exact HO, HBr⟩
          case measure => simp [intOf]; omega
    · have hyy : y = H := Nat.le_antisymm hy (Nat.le_of_not_lt hyH)
      subst hyy
      have k0 : decide ((y : Int) < (y : Int)) = false := by simp
      have HOF := Lib.hid (show wr.ownsRow w.heap.size 5 1 (.slice (some ⟨g, 0, none⟩) n cp) n (nums .u8 (Alp.foL f W bs n)) from by rw [← foS_all]; have h := HO.out; rw [Nat.mul_comm, HWH.out] at h; exact h)
      go_wp2_with fail
      go_ret
      exact ⟨HBr.out, _, _, rfl, own_reads' HOF.out⟩

set_option maxHeartbeats 4000000 in
theorem refFilter_back (W H f : Nat) (ad : Addr) (n c : Nat) (bs : List Int) (w : World) (HR : ReadsInt w .u8 (some ad) n bs) (hbs : ∀ v ∈ bs, 0 ≤ v ∧ v ≤ 255) (hn0 : 0 < n) (hn : n ≤ 100000) (hW : 1 ≤ W ∧ W ≤ 16384) (hWH : W * H = n) (hf : f ≤ 3) :
    Calls Tryz.prog 10 #[.slice (some ad) n c, .int .i64 W, .int .i64 H, .int .i64 f, .bool true] w fun e w' => Below w.heap.size w w' ∧ ∃ A2 c2, e = .returned (.slice A2 n c2) ∧ ReadsInt w' .u8 A2 n (Alp.baL f W bs n) := by
  have HBS := Lib.hid hbs; have HLN := Lib.hid HR.1; have HRW := Lib.hid HR; have HWH := Lib.hid hWH
  have hH : H ≤ n := by rw [← hWH]; exact Nat.le_mul_of_pos_left H (by omega)
  clear HR hbs hWH
  go_enter Tryz.func10, Tryz.ntmps10
  go_wp2_with (at_builtin; refine print_append_row w.heap.size rfl _ _ 22 5 .u8 1 rfl Tryz.underlying22 info_u8 (by decide) _ [] bs (some ad) n c rfl rfl (by exact own_lit w w.heap.size 5 .u8 [] (Nat.le_refl _) (by decide)) (by exact HRW.out.below ((Below.refl _ w).alloc (Nat.le_refl _) _)) ((Below.refl _ w).alloc (Nat.le_refl _) _) (by simp) (by simp; omega) ?_)
  intro v1 w1 hown hB1 _ _
  rw [HLN.out] at hown
  have hform : ∃ g cp, v1 = .slice (some ⟨g, 0, none⟩) n cp ∧ w.heap.size ≤ g ∧ g < w1.heap.size := some_own hown hn0
  obtain ⟨g, cp, rfl, hg1, hg2⟩ := hform
  rw [show bs = baS f W bs n 0 from (baS_zero f W bs n HLN.out).symm] at hown
  have HO1 := Lib.hid hown; have HB1 := Lib.hid hB1
  clear hown hB1
  go_wp2_with fail
  go_loopw [12, 13] (fun yv _ wr => ∃ y : Nat, y ≤ H ∧ yv = .int .i64 y ∧ Hid (wr.ownsRow w.heap.size 5 1 (.slice (some ⟨g, 0, none⟩) n cp) n (nums .u8 (baS f W bs n (y * W)))) ∧ Hid (Below w.heap.size w wr)) (fun yv _ _ => H - (intOf yv).toNat)
  case atStart => exact ⟨0, Nat.zero_le _, rfl, by rw [Nat.zero_mul]; exact HO1, HB1⟩
  case round =>
    clear HO1 HB1
    obtain ⟨y, hy, rfl, HO, HBr⟩ := hrel
    by_cases hyH : y < H
    · have k0 : decide ((y : Int) < (H : Int)) = true := decide_eq_true (by omega)
      go_wp2_with fail
      go_loopw [13] (fun xv wr => ∃ x : Nat, x ≤ W ∧ xv = .int .i64 x ∧ Hid (wr.ownsRow w.heap.size 5 1 (.slice (some ⟨g, 0, none⟩) n cp) n (nums .u8 (baS f W bs n (y * W + x)))) ∧ Hid (Below w.heap.size w wr)) (fun xv _ => W - (intOf xv).toNat)
      case atStart => exact ⟨0, Nat.zero_le _, rfl, HO, HBr⟩
      case round =>
        clear HO HBr
        obtain ⟨x, hx, rfl, HO, HBr⟩ := hrel
        by_cases hxW : x < W
        · obtain ⟨t, ht⟩ : ∃ t, y * W + x = t := ⟨_, rfl⟩
          rw [ht] at HO
          have htn : t < n := by
            have h1 : (y + 1) * W ≤ H * W := Nat.mul_le_mul_right W hyH
            have h2 := HWH.out
            rw [Nat.add_mul, Nat.one_mul, Nat.mul_comm H W, h2] at h1
            omega
          obtain ⟨p, i1, i2, i3, i4, k1, k2⟩ := fil_facts y W x t n ht htn hn
          have HTT := Lib.hid ht
          clear ht
          have k3 : decide ((x : Int) < (W : Int)) = true := decide_eq_true (by omega)
          obtain ⟨ct, ft⟩ := own_at HO.out (t : Int) k1 k2
          rw [baS_at f W bs n t htn, Int.toNat_natCast] at ct
          rw [Int.toNat_natCast] at ft
          obtain ⟨a', h', hcell⟩ := (HRW.out.below HBr.out).2.2 (by omega)
          cases h'
          have ca := hcell t htn
          have hset := baS_set f W bs n t hW.1 htn
          have hgs := Alp.gs_le (f := f) (W := W) (t := t) (fun j => Alp.getD_255 (baS_lt f W bs n t HBS.out) j)
          have hbv := Alp.getD_255 HBS.out t
          have GU := Lib.hid (fun wz (h : ReadsInt wz .u8 (some ⟨g, 0, none⟩) n (baS f W bs n t)) => refGuess_any f W n cp x y t (some ⟨g, 0, none⟩) (baS f W bs n t) wz h (baS_lt f W bs n t HBS.out) hxW HTT.out htn (by omega) hf)
          skip
          generalize Alp.gs f W (fun j => (baS f W bs n t).getD j 0) t = gv at *
          generalize bs.getD t 0 = bv at *
          have hset2 : (baS f W bs n t).set t ((bv + gv) % 256) = baS f W bs n (t + 1) := by rw [← hset]
          have HSET := Lib.hid hset2
          have j1 : IntKind.i64.wrap bv = bv := IntWalk.i64_in _ (by omega)
          have j2 : wrap64 bv = bv := w64 _ (by omega) (by omega)
          have j3 : IntKind.i64.wrap (bv + gv) = bv + gv := IntWalk.i64_in _ (by omega)
          have j4 : IntKind.i64.wrap (bv + 256) = bv + 256 := IntWalk.i64_in _ (by omega)
          have j5 : IntKind.i64.wrap (bv + 256 - gv) = bv + 256 - gv := IntWalk.i64_in _ (by omega)
          have j6 : wrap64 (bv + gv) = bv + gv := w64 _ (by omega) (by omega)
          have j7 : wrap64 (bv + 256) = bv + 256 := w64 _ (by omega) (by omega)
          have j8 : wrap64 (bv + 256 - gv) = bv + 256 - gv := w64 _ (by omega) (by omega)
          have hab : ad.block ≠ g := by
            have h1 := block_of HRW.out hn0
            omega
          have hsf : ∀ (q : Nat) v, ((wr.drewN q).setCell ⟨g, t, none⟩ v).drew.cell? (ad.add t) = some (.int .u8 bv) := fun q v => (World.cell?_setCell_far _ _ _ _ (by rw [add_block]; exact hab.symm)).trans (by simpa using ca)
          have hsf0 : ∀ v, (wr.setCell ⟨g, t, none⟩ v).drew.cell? (ad.add t) = some (.int .u8 bv) := fun v => (World.cell?_setCell_far _ _ _ _ (by rw [add_block]; exact hab.symm)).trans ca
          clear hset hset2 hcell
          go_upto_region 9 with fail
          go_region_held3 (fun w' => w'.cell? (ad.add t) = some (.int .u8 bv)) ((first | exact ca | exact hsf0 _ | exact hsf _ _ | (simpa using ca) | go_keep)) ((go_at_call 17; refine (GU.out _ (by first | exact (own_reads' HO.out) | exact ReadsInt.drewN (own_reads' HO.out) 1)).mono ?_; rintro e w5 ⟨rfl, q, rfl⟩))
          all_goals (
            have hB5 : Below wr.heap.size wr (wr.drewN (1 + q)) := pw_below_drewN (Below.refl _ _) _
            have HO5 := Lib.hid (pw_own_below HO.out hB5)
            have hm : Mods [g] (wr.drewN (1 + q)) ((wr.drewN (1 + q)).setCell ⟨g, t, none⟩ (.int .u8 ((bv + gv) % 256))) := (Mods.refl [g] _).setCell (p := ⟨g, t, none⟩) (.inl (by simp)) _
            have ho := (World.ownsRow.stored HO5.out t (.int .u8 ((bv + gv) % 256))).1
            rw [← nums_set8, HSET.out] at ho
            have HO6 := Lib.hid (show ((wr.drewN (1 + q)).setCell ⟨g, t, none⟩ (.int .u8 ((bv + gv) % 256))).ownsRow w.heap.size 5 1 (.slice (some ⟨g, 0, none⟩) n cp) n (nums .u8 (baS f W bs n (y * W + (x + 1)))) from by rw [← Nat.add_assoc, HTT.out]; exact ho)
            have HB5 := Lib.hid (Below.then_mods (below_then HBr.out HBr.out.size hB5) (by rw [heap_drewN]; exact HBr.out.size) hm (by intro s hs; obtain rfl := List.mem_singleton.1 hs; exact hg1))
            clear hB5 hm ho
            rw [show IntKind.u8.wrap (bv + gv) = ((bv + gv) % 256) from by simp [IntKind.wrap, IntKind.bits, IntKind.signed]]
            go_wp2_with fail
            go_roundw
            case rel => exact ⟨x + 1, by omega, by go_num, HO6.out, HB5.out⟩
            case measure => simp [intOf]; omega)
        · obtain rfl : x = W := by omega
          have k3 : decide ((x : Int) < (x : Int)) = false := by simp
          go_wp2_with fail
          go_roundw
          case rel => exact ⟨y + 1, by omega, by go_num, by rw [Nat.add_mul, Nat.one_mul]; exact HO, HBr⟩
          case measure => simp [intOf]; omega
    · have hyy : y = H := Nat.le_antisymm hy (Nat.le_of_not_lt hyH)
      subst hyy
      have k0 : decide ((y : Int) < (y : Int)) = false := by simp
      have HOF := Lib.hid (show wr.ownsRow w.heap.size 5 1 (.slice (some ⟨g, 0, none⟩) n cp) n (nums .u8 (Alp.baL f W bs n)) from by rw [← baS_all]; have h := HO.out; rw [Nat.mul_comm, HWH.out] at h; exact h)
      go_wp2_with fail
      go_ret
      exact ⟨HBr.out, _, _, rfl, own_reads' HOF.out⟩
end Go.Proofs.YtodpognmkbjlmaaGreatDoor
