/- The law TableSizes. -/
import Derived.Test.YtmgkdlkjcncniaaTab8
import Derived.Test.YtmgkdlkjcncniaaTabS
namespace Go.Proofs.Ytmgkdlkjcncniaa
open Go.RowKit
open Go.Proofs.YtmgkdlkjcncniaaW.PrintWords

theorem le_room {V W H b : Nat} (hV : V = (W + 2 ^ b - 1) / 2 ^ b) (h1 : 1 ≤ W) (h2 : W ≤ 16384) (h3 : H ≤ 16384) : V * H ≤ 268435456 := by
  have hp : 0 < 2 ^ b := Nat.pow_pos (by decide)
  have hv : V ≤ W := by
    rw [hV, Nat.div_le_iff_le_mul_add_pred hp]
    have : W ≤ W * 2 ^ b := Nat.le_mul_of_pos_right W hp
    rw [Nat.mul_comm]; omega
  have : V * H ≤ 16384 * 16384 := Nat.mul_le_mul (by omega) h3
  omega

set_option maxRecDepth 100000 in
set_option maxHeartbeats 8000000 in
theorem law_TableSizes (W H : Int) (A : Option Addr) (n c : Nat) (ps : List Int) (w : World) (HR : ReadsInt w .u32 A n ps) (hps : ∀ x ∈ ps, 0 ≤ x ∧ x < 4294967296) :
    Calls Try.prog 3 #[.agg #[.int .i64 W, .int .i64 H, .slice A n c]] w fun e w' => e = .returned (.bool true) ∧ Below w.heap.size w w' := by
  have HRR := Lib.hid HR; have HPS := Lib.hid hps
  have hnew := alloc_new w #[.int .i64 W, .int .i64 H, .slice A n c] 24
  have hb0 := (Below.refl _ w).alloc (Nat.le_refl _) (.cells #[.int .i64 W, .int .i64 H, .slice A n c] 24)
  obtain ⟨X, hX⟩ : ∃ X, w.heap.size = X := ⟨_, rfl⟩
  rw [hX] at hnew hb0
  have hr1 := HR.below (show Below w.heap.size w _ from (Below.refl _ w).alloc (Nat.le_refl _) (.cells #[.int .i64 W, .int .i64 H, .slice A n c] 24))
  have HN := Lib.hid hnew; have HB := Lib.hid hb0; have HX := Lib.hid hX; have HR1 := Lib.hid hr1
  clear HR hps hnew hb0 hr1
  by_cases hbig : 2000 < n
  · have z1 : decide ((2000 : Int) < (n : Int)) = true := by simp; omega
    go_enter Try.func3, Try.ntmps3
    go_wp2_with fail
    refine (answers16 _).mono ?_
    rintro e w6 ⟨rfl, hB6⟩
    go_wp2_with fail
    go_ret
    exact ⟨rfl, by rw [hX]; exact below_then HB.out (by simp; omega) hB6⟩
  have z1 : decide ((2000 : Int) < (n : Int)) = false := by simp; omega
  cases hg : goodI W H n with
  | false =>
    have HG := Lib.hid hg
    clear hg
    go_enter Try.func3, Try.ntmps3
    go_wp2_with fail
    refine (colors_bad W H A n c _ HG.out).mono ?_
    rintro e w2 ⟨rfl, hB2⟩
    have HB2 := Lib.hid (below_then HB.out (by simp; omega) hB2)
    clear hB2
    go_wp2_with fail
    refine (answers16 _).mono ?_
    rintro e w6 ⟨rfl, hB6⟩
    go_wp2_with fail
    go_ret
    exact ⟨rfl, by rw [hX]; exact below_then HB2.out (by have := HB2.out.size; omega) hB6⟩
  | true =>
    have HG := Lib.hid hg
    have hgi := hg
    unfold goodI at hgi
    obtain ⟨hW1, hW2, hH1, hH2, hn⟩ := of_decide_eq_true hgi
    clear hg hgi
    obtain ⟨W, rfl⟩ : ∃ W' : Nat, W = W' := ⟨W.toNat, by omega⟩
    obtain ⟨H, rfl⟩ : ∃ H' : Nat, H = H' := ⟨H.toNat, by omega⟩
    have hnn : n = W * H := by exact_mod_cast hn
    have HNN := Lib.hid hnn
    clear hn hnn
    go_enter Try.func3, Try.ntmps3
    go_wp2_with fail
    refine (colors_good W H A n c ps _ HR1.out HPS.out HG.out).mono ?_
    rintro e w2 ⟨hB2, ⟨_, rfl⟩ | ⟨hm, g, hg, rfl, hl⟩⟩
    · have HB2 := Lib.hid (below_then HB.out (by simp; omega) hB2)
      clear hB2
      go_wp2_with fail
      refine (answers16 _).mono ?_
      rintro e w6 ⟨rfl, hB6⟩
      go_wp2_with fail
      go_ret
      exact ⟨rfl, by have := HX.out; rw [this]; exact below_then HB2.out (by have := HB2.out.size; omega) hB6⟩
    obtain ⟨ls, hls⟩ : ∃ ls, Tb.cols ps = ls := ⟨_, rfl⟩
    rw [hls] at hl hm ⊢
    obtain ⟨m, hmm⟩ : ∃ m, ls.length = m := ⟨_, rfl⟩
    rw [hmm] at hl hm ⊢
    have hmem : ∀ t, t < n → ps.getD t 0 ∈ ls := fun t ht => by
      rw [← hls, Tb.mem_cols, List.getD_eq_getElem?_getD, List.getElem?_eq_getElem (by rw [HRR.out.1]; exact ht)]; exact List.getElem_mem _
    have hn1 : 1 ≤ n := by rw [HNN.out]; exact Nat.mul_pos (show 0 < W by omega) (show 0 < H by omega)
    have hm1 : 1 ≤ m := by rw [← hmm]; exact List.length_pos_of_mem (hmem 0 hn1)
    have hlw : ∀ x ∈ ls, 0 ≤ x ∧ x < 4294967296 := fun x hx => HPS.out x (by rw [← hls, Tb.mem_cols] at hx; exact hx)
    have HL := Lib.hid hl; have HLW := Lib.hid hlw; have HMEM := Lib.hid hmem; have HMM := Lib.hid hmm
    have HB2 := Lib.hid (below_then HB.out (by simp; omega) hB2)
    have HR2 := Lib.hid (HR1.out.below hB2)
    have him := (Mods.of_below hB2 []).blk HN.out (by simp)
    obtain ⟨i0, i1, i2, _, _, _⟩ := box3 him
    have HIM := Lib.hid him
    have hgl : g < w2.heap.size := block_of HL.out (by omega)
    obtain ⟨V, hV⟩ : ∃ V : Nat, blocksI W (bitsT m) = V := ⟨(blocksI W (bitsT m)).toNat, by
      unfold blocksI
      have h2 : (0 : Int) < 2 ^ bitsT m := Int.pow_pos (by omega)
      have : (0 : Int) ≤ ((W : Int) + 2 ^ bitsT m - 1) / 2 ^ bitsT m := Int.ediv_nonneg (by omega) (by omega)
      omega⟩
    have HV := Lib.hid hV
    have hok : okP W H n m = true := by
      unfold okP; rw [HG.out]; unfold goodT; simp; omega
    clear hB2 him hl hlw hmem hV hls hmm HR1 HN HB
    go_wp2_with fail
    refine (pack_good W H A ⟨g, 0, none⟩ n c m m ps ls w2 HR2.out HL.out HPS.out HLW.out hgl hok V HV.out).mono ?_
    rintro e w3 ⟨hB3, ⟨t, h1, h2, _⟩ | ⟨_, g2, hg2, rfl, hr3⟩⟩
    · obtain ⟨i, h3, _⟩ := fi_mem (HMEM.out t h1)
      rw [h3] at h2; cases h2
    obtain ⟨NN, hNN⟩ : ∃ NN, V * H = NN := ⟨_, rfl⟩
    rw [hNN] at hr3 ⊢
    have hVn := blocks_nat (show ((W : Int) + 2 ^ bitsT m - 1) / 2 ^ bitsT m = (V : Int) from by have h := HV.out; unfold blocksI at h; exact h) (by omega)
    have HVN := Lib.hid hVn
    have HFULL := Lib.hid (fun I (hI : I < NN) => val_full (W := W) (V := V) (H := H) (b := bitsT m) (I := I) (N := pnum ls ps) hVn (by omega) (by rw [hNN]; exact hI) (fun k => pnum_lt (ps := ps) HMM.out hm k))
    rw [HNN.out] at hr3
    have hNNr : NN ≤ 268435456 := by have := hr3.2.1; rw [← hNN]; have h1 := HV.out; exact le_room hVn (by omega) (by omega) (by omega)
    have HB3 := Lib.hid (below_then HB2.out (by have := HB2.out.size; omega) hB3)
    have hb4 := (Below.refl _ w3).alloc (Nat.le_refl _) (.cells #[.int .i64 V, .int .i64 H, .slice (some ⟨g2, 0, none⟩) NN NN] 24)
    have HR4 := Lib.hid (hr3.below hb4)
    have HIM4 := Lib.hid ((Mods.of_below (hB3.trans (hb4.mono hB3.size)) []).blk HIM.out (by simp))
    have HB4 := Lib.hid (HB3.out.alloc (by have := HB3.out.size; omega) (.cells #[.int .i64 V, .int .i64 H, .slice (some ⟨g2, 0, none⟩) NN NN] 24))
    obtain ⟨p0, p1, p2, _, _, _⟩ := box3 (alloc_new w3 #[.int .i64 V, .int .i64 H, .slice (some ⟨g2, 0, none⟩) NN NN] 24)
    obtain ⟨Z, hZ⟩ : ∃ Z, w3.heap.size = Z := ⟨_, rfl⟩
    rw [hZ] at p0 p1 p2
    have HZ := Lib.hid hZ
    clear hr3 hB3 hb4 i0 i1 i2 HIM HR2 HL hVn hZ hNN
    obtain ⟨i0, i1, i2, _, _, _⟩ := box3 HIM4.out
    go_upto_if 30 with fail
    rw [HZ.out]
    generalize w3.alloc (.cells #[.int .i64 V, .int .i64 H, .slice (some ⟨g2, 0, none⟩) NN NN] 24) = w4 at *
    obtain ⟨M1, hM1⟩ : ∃ M1 : Nat, (if m ≤ 16 then 2 else 1) = M1 := ⟨_, rfl⟩
    obtain ⟨M2, hM2⟩ : ∃ M2 : Nat, (if m ≤ 4 then 4 else M1) = M2 := ⟨_, rfl⟩
    obtain ⟨M3, hM3⟩ : ∃ M3 : Nat, (if m ≤ 2 then 8 else M2) = M3 := ⟨_, rfl⟩
    have hmany : M3 = 2 ^ bitsT m := by
      rw [← hM3, ← hM2, ← hM1, ← many_pow]; unfold manyT; split; rfl; split; rfl; split; rfl; rfl
    have HM1 := Lib.hid hM1; have HM2 := Lib.hid hM2; have HM3 := Lib.hid hM3; have HMY := Lib.hid hmany
    clear hM1 hM2 hM3 hmany
    go_cut [7] from 28 (fun t wx => t = .int .i64 M1 ∧ wx = w4)
    case first =>
      have h1 := HM1.out
      by_cases h16 : m ≤ 16
      · have hd : decide ((m : Int) ≤ 16) = true := by simp; omega
        have hd' : (m : Int) ≤ 16 := by omega
        rw [if_pos h16] at h1
        subst h1
        go_wp2_with fail
        go_meet
        exact ⟨rfl, rfl⟩
      · have hd : decide ((m : Int) ≤ 16) = false := by simp; omega
        have hd' : ¬ (m : Int) ≤ 16 := by omega
        rw [if_neg h16] at h1
        subst h1
        go_wp2_with fail
        go_meet
        exact ⟨rfl, rfl⟩
    case rest =>
      obtain ⟨rfl, rfl⟩ := hcut
      go_upto_if 33 with fail
      go_cut [7] from 28 (fun t wx => t = .int .i64 M2 ∧ wx = wc)
      case first =>
        have h1 := HM2.out
        by_cases h16 : m ≤ 4
        · have hd : decide ((m : Int) ≤ 4) = true := by simp; omega
          have hd' : (m : Int) ≤ 4 := by omega
          rw [if_pos h16] at h1
          subst h1
          go_wp2_with fail
          go_meet
          exact ⟨rfl, rfl⟩
        · have hd : decide ((m : Int) ≤ 4) = false := by simp; omega
          have hd' : ¬ (m : Int) ≤ 4 := by omega
          rw [if_neg h16] at h1
          subst h1
          go_wp2_with fail
          go_meet
          exact ⟨rfl, rfl⟩
      case rest =>
        obtain ⟨rfl, rfl⟩ := hcut
        go_upto_if 36 with fail
        go_cut [7] from 28 (fun t wx => t = .int .i64 M3 ∧ wx = wc)
        case first =>
          have h1 := HM3.out
          by_cases h16 : m ≤ 2
          · have hd : decide ((m : Int) ≤ 2) = true := by simp; omega
            have hd' : (m : Int) ≤ 2 := by omega
            rw [if_pos h16] at h1
            subst h1
            go_wp2_with fail
            go_meet
            exact ⟨rfl, rfl⟩
          · have hd : decide ((m : Int) ≤ 2) = false := by simp; omega
            have hd' : ¬ (m : Int) ≤ 2 := by omega
            rw [if_neg h16] at h1
            subst h1
            go_wp2_with fail
            go_meet
            exact ⟨rfl, rfl⟩
        case rest =>
          obtain ⟨rfl, rfl⟩ := hcut
          go_wp2_with fail
          go_loopw [8] (fun vi wr => ∃ j : Nat, j ≤ NN ∧ vi = .int .i64 j ∧ wr = wc) (fun vi _ => NN - (intOf vi).toNat)
          case atStart => exact ⟨0, Nat.zero_le _, rfl, rfl⟩
          case round =>
            obtain ⟨j, hj, rfl, rfl⟩ := hrel
            by_cases hlt : j < NN
            · obtain ⟨ao, hao, co⟩ := ReadsInt.at_ HR4.out (j : Int) (by omega) (by omega)
              cases hao
              rw [Int.toNat_natCast, add_plain] at co
              have hpo : rd ((List.range NN).map fun I => (Tb.val W V (bitsT m) (pnum ls ps) (W * H) I : Int)) (j : Int) = (Tb.val W V (bitsT m) (pnum ls ps) (W * H) j : Nat) := by
                unfold rd; rw [Int.toNat_natCast, List.getD_eq_getElem?_getD, List.getElem?_map, List.getElem?_range hlt]; rfl
              rw [hpo] at co
              have hbk := black_mask (HFULL.out j hlt)
              clear hpo
              generalize Tb.val W V (bitsT m) (pnum ls ps) (W * H) j = vv at *
              go_wp2_with fail
              go_roundw
              case rel => exact ⟨j + 1, by omega, by go_num, by first | rfl | trivial⟩
              case measure => simp [intOf]; omega
            · have hjk : j = NN := by omega
              subst hjk
              have h1 := HMY.out
              have hp8 : 1 ≤ M3 ∧ M3 ≤ 8 := by
                rw [h1]
                have hb := bitsT_le m
                have : bitsT m = 0 ∨ bitsT m = 1 ∨ bitsT m = 2 ∨ bitsT m = 3 := by omega
                rcases this with h | h | h | h <;> rw [h] <;> decide
              obtain ⟨hp1, hp2⟩ := hp8
              have hv : V = (W + M3 - 1) / M3 := by rw [h1]; exact HVN.out
              have hq : ((W : Int) + (M3 : Int) - 1) / (M3 : Int) = (V : Int) := by
                rw [hv, show (W : Int) + (M3 : Int) - 1 = ((W + M3 - 1 : Nat) : Int) by omega]; norm_cast
              have hq2 : ((W : Int) + (M3 : Int) - 1).tdiv (M3 : Int) = (V : Int) := by rw [Int.tdiv_eq_ediv_of_nonneg (by omega)]; exact hq
              have hm0 : ¬ M3 = 0 := by omega
              have hm0' : ((M3 : Int) == 0) = false := by simp; omega
              have hwv : IntKind.i64.wrap (V : Int) = V := IntWalk.i64_in _ (by
                have : V ≤ W + M3 - 1 := by rw [hv]; exact Nat.div_le_self _ _
                omega)
              have HVV := Lib.hid hv
              clear hv h1
              go_upto_region 19 with fail
              have hsz : X ≤ wr.heap.size := by have := HB4.out.size; omega
              go_region_held3 (fun wz => wz.cell? ⟨X, 0, none⟩ = some (.int .i64 W) ∧ wz.cell? ⟨X, 1, none⟩ = some (.int .i64 H) ∧ wz.cell? ⟨Z, 0, none⟩ = some (.int .i64 V) ∧ wz.cell? ⟨Z, 1, none⟩ = some (.int .i64 H)) ((first | exact ⟨i0, i1, p0, p1⟩ | exact ⟨pw_cell_below HB5.out i0, pw_cell_below HB5.out i1, pw_cell_below HB5.out p0, pw_cell_below HB5.out p1⟩ | fail)) ((first
                | (go_at_call 8; refine (answers16 _).mono ?_; rintro e w5 ⟨rfl, hB5⟩; have HB5 := Lib.hid hB5; clear hB5) | fail))
              all_goals
                go_wp2_with fail
                go_ret
                refine ⟨?_, by have := HX.out; rw [this]; exact below_then HB4.out.drew hsz HB5.out⟩
                first
                  | rfl
                  | (refine congrArg (fun b => Ending.returned (Value.bool b)) (show ((V : Int) == IntKind.i64.wrap ((IntKind.i64.wrap (IntKind.i64.wrap ((W : Int) + (M3 : Int)) - 1)).tdiv (M3 : Int))) = true from ?_)
                     rw [IntWalk.i64_in ((W : Int) + (M3 : Int)) (by omega), IntWalk.i64_in ((W : Int) + (M3 : Int) - 1) (by omega), hq2, hwv]; simp)
end Go.Proofs.Ytmgkdlkjcncniaa
