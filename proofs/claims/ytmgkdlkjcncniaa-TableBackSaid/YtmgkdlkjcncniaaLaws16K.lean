/- The law TableBack. -/
import Derived.Test.YtmgkdlkjcncniaaLaws16S
import Derived.Test.YtmgkdlkjcncniaaTabT
import Derived.Test.YtmgkdlkjcncniaaTab2
import Derived.Test.YtmgkdlkjcncniaaRefPix
namespace Go.Proofs.Ytmgkdlkjcncniaa
open Go.RowKit
open Go.Proofs.YtmgkdlkjcncniaaW.PrintWords

theorem le_self {V W b : Nat} (hV : V = (W + 2 ^ b - 1) / 2 ^ b) (h1 : 1 ≤ W) : V ≤ W ∧ 1 ≤ V := by
  have hp : 0 < 2 ^ b := Nat.pow_pos (by decide)
  refine ⟨?_, ?_⟩
  · rw [hV, Nat.div_le_iff_le_mul_add_pred hp]
    have : W ≤ W * 2 ^ b := Nat.le_mul_of_pos_right W hp
    rw [Nat.mul_comm]; omega
  · rw [hV, Nat.le_div_iff_mul_le hp]; omega

set_option maxRecDepth 100000 in
set_option maxHeartbeats 8000000 in
theorem law_TableBack (W H : Int) (A : Option Addr) (n c : Nat) (ps : List Int) (w : World) (HR : ReadsInt w .u32 A n ps) (hps : ∀ x ∈ ps, 0 ≤ x ∧ x < 4294967296) :
    Calls Try.prog 5 #[.agg #[.int .i64 W, .int .i64 H, .slice A n c]] w fun e w' => e = .returned (.bool true) ∧ Below w.heap.size w w' := by
  have HRR := Lib.hid HR; have HPS := Lib.hid hps
  have hnew := alloc_new w #[.int .i64 W, .int .i64 H, .slice A n c] 24
  have hb0 := (Below.refl _ w).alloc (Nat.le_refl _) (.cells #[.int .i64 W, .int .i64 H, .slice A n c] 24)
  obtain ⟨X, hX⟩ : ∃ X, w.heap.size = X := ⟨_, rfl⟩
  rw [hX] at hnew hb0
  have hr1 := HR.below (show Below w.heap.size w _ from (Below.refl _ w).alloc (Nat.le_refl _) (.cells #[.int .i64 W, .int .i64 H, .slice A n c] 24))
  have HN := Lib.hid hnew; have HB := Lib.hid hb0; have HX := Lib.hid hX; have HR1 := Lib.hid hr1
  clear HR hps hnew hb0 hr1
  by_cases hbig : 2000 < n
  · have z1 : decide ((2000 : Int) < (n : Int)) = true := by simp; omega
    go_enter Try.func5, Try.ntmps5
    go_wp2_with fail
    refine (answers16 _).mono ?_
    rintro e w6 ⟨rfl, hB6⟩
    go_wp2_with fail
    go_ret
    exact ⟨rfl, by rw [hX]; exact below_then HB.out (by simp; omega) hB6⟩
  have z1 : decide ((2000 : Int) < (n : Int)) = false := by simp; omega
  cases hg : goodI W H n with
  | false =>
    have HG := Lib.hid hg
    clear hg
    go_enter Try.func5, Try.ntmps5
    go_wp2_with fail
    refine (colors_bad W H A n c _ HG.out).mono ?_
    rintro e w2 ⟨rfl, hB2⟩
    have HB2 := Lib.hid (below_then HB.out (by simp; omega) hB2)
    clear hB2
    go_wp2_with fail
    refine (answers16 _).mono ?_
    rintro e w6 ⟨rfl, hB6⟩
    go_wp2_with fail
    go_ret
    exact ⟨rfl, by rw [hX]; exact below_then HB2.out (by have := HB2.out.size; omega) hB6⟩
  | true =>
    have HG := Lib.hid hg
    have hgi := hg
    unfold goodI at hgi
    obtain ⟨hW1, hW2, hH1, hH2, hn⟩ := of_decide_eq_true hgi
    clear hg hgi
    obtain ⟨W, rfl⟩ : ∃ W' : Nat, W = W' := ⟨W.toNat, by omega⟩
    obtain ⟨H, rfl⟩ : ∃ H' : Nat, H = H' := ⟨H.toNat, by omega⟩
    have hnn : n = W * H := by exact_mod_cast hn
    have HNN := Lib.hid hnn
    clear hn hnn
    go_enter Try.func5, Try.ntmps5
    go_wp2_with fail
    refine (colors_good W H A n c ps _ HR1.out HPS.out HG.out).mono ?_
    rintro e w2 ⟨hB2, ⟨_, rfl⟩ | ⟨hm, g, hg, rfl, hl⟩⟩
    · have HB2 := Lib.hid (below_then HB.out (by simp; omega) hB2)
      clear hB2
      go_wp2_with fail
      refine (answers16 _).mono ?_
      rintro e w6 ⟨rfl, hB6⟩
      go_wp2_with fail
      go_ret
      exact ⟨rfl, by have := HX.out; rw [this]; exact below_then HB2.out (by have := HB2.out.size; omega) hB6⟩
    obtain ⟨ls, hls⟩ : ∃ ls, Tb.cols ps = ls := ⟨_, rfl⟩
    rw [hls] at hl hm ⊢
    obtain ⟨m, hmm⟩ : ∃ m, ls.length = m := ⟨_, rfl⟩
    rw [hmm] at hl hm ⊢
    have hmem : ∀ t, t < n → ps.getD t 0 ∈ ls := fun t ht => by
      rw [← hls, Tb.mem_cols, List.getD_eq_getElem?_getD, List.getElem?_eq_getElem (by rw [HRR.out.1]; exact ht)]; exact List.getElem_mem _
    have hn1 : 1 ≤ n := by rw [HNN.out]; exact Nat.mul_pos (show 0 < W by omega) (show 0 < H by omega)
    have hm1 : 1 ≤ m := by rw [← hmm]; exact List.length_pos_of_mem (hmem 0 hn1)
    have hlw : ∀ x ∈ ls, 0 ≤ x ∧ x < 4294967296 := fun x hx => HPS.out x (by rw [← hls, Tb.mem_cols] at hx; exact hx)
    have HL := Lib.hid hl; have HLW := Lib.hid hlw; have HMEM := Lib.hid hmem; have HMM := Lib.hid hmm
    have HB2 := Lib.hid (below_then HB.out (by simp; omega) hB2)
    have HR2 := Lib.hid (HR1.out.below hB2)
    have him := (Mods.of_below hB2 []).blk HN.out (by simp)
    obtain ⟨i0, i1, i2, _, _, _⟩ := box3 him
    have HIM := Lib.hid him
    have hgl : g < w2.heap.size := block_of HL.out (by omega)
    obtain ⟨V, hV⟩ : ∃ V : Nat, blocksI W (bitsT m) = V := ⟨(blocksI W (bitsT m)).toNat, by
      unfold blocksI
      have h2 : (0 : Int) < 2 ^ bitsT m := Int.pow_pos (by omega)
      have : (0 : Int) ≤ ((W : Int) + 2 ^ bitsT m - 1) / 2 ^ bitsT m := Int.ediv_nonneg (by omega) (by omega)
      omega⟩
    have HV := Lib.hid hV
    have hok : okP W H n m = true := by
      unfold okP; rw [HG.out]; unfold goodT; simp; omega
    clear hB2 him hl hlw hmem hV hls hmm HR1 HN HB
    go_wp2_with fail
    refine (pack_good W H A ⟨g, 0, none⟩ n c m m ps ls w2 HR2.out HL.out HPS.out HLW.out hgl hok V HV.out).mono ?_
    rintro e w3 ⟨hB3, ⟨t, h1, h2, _⟩ | ⟨_, g2, hg2, rfl, hr3⟩⟩
    · obtain ⟨i, h3, _⟩ := fi_mem (HMEM.out t h1)
      rw [h3] at h2; cases h2
    have hVn := blocks_nat (show ((W : Int) + 2 ^ bitsT m - 1) / 2 ^ bitsT m = (V : Int) from by have h := HV.out; unfold blocksI at h; exact h) (by omega)
    obtain ⟨hv1, hv2⟩ := le_self hVn (by omega)
    have hps3 : ∀ x ∈ (List.range (V * H)).map (fun I => (Tb.val W V (bitsT m) (pnum ls ps) n I : Int)), 0 ≤ x ∧ x < 4294967296 := by
      intro x hx
      obtain ⟨I, _, rfl⟩ := List.mem_map.1 hx
      have := val_lt (W := W) (V := V) (b := bitsT m) (t := n) (I := I) (N := pnum ls ps) (fun k => pnum_lt (ps := ps) HMM.out hm k)
      omega
    have hall := unp_all (H := H) HMM.out hm hVn (by omega) (show ps.length = W * H from by rw [← HNN.out]; exact HRR.out.1) (fun t ht => HMEM.out t (by rw [HNN.out]; exact ht))
    rw [← HNN.out] at hall
    have hou : okU V H (V * H) m W = true := by
      have hg1 : goodI V H (V * H) = true := by unfold goodI; exact decide_eq_true ⟨by omega, by omega, by omega, by omega, by push_cast; rfl⟩
      have hg2 : goodT m = true := by unfold goodT; exact decide_eq_true ⟨hm1, hm⟩
      unfold okU; rw [hg1, hg2, HV.out]; simp; omega
    have hle : V * H ≤ n := by rw [HNN.out]; exact Nat.mul_le_mul_right H hv1
    have call := fun wz hz => unpack_good V H W (some ⟨g2, 0, none⟩) (some ⟨g, 0, none⟩) (V * H) (V * H) m m ((List.range (V * H)).map (fun I => (Tb.val W V (bitsT m) (pnum ls ps) n I : Int))) ls wz hz
    rw [← HNN.out, hall] at call
    have CALL := Lib.hid (fun wz h1 h2 => call wz h1 h2 hps3 HLW.out hou)
    clear call hou hps3 hall
    have HB3 := Lib.hid (below_then HB2.out (by have := HB2.out.size; omega) hB3)
    obtain ⟨NN, hNN⟩ : ∃ NN, V * H = NN := ⟨_, rfl⟩
    rw [hNN] at hr3 hle CALL ⊢
    have hb4 := (Below.refl _ w3).alloc (Nat.le_refl _) (.cells #[.int .i64 V, .int .i64 H, .slice (some ⟨g2, 0, none⟩) NN NN] 24)
    have HR4 := Lib.hid (hr3.below hb4)
    have HL4 := Lib.hid ((HL.out.below hB3).below hb4)
    have HM4 := Lib.hid ((HR2.out.below hB3).below hb4)
    have HIM4 := Lib.hid ((Mods.of_below (hB3.trans (hb4.mono hB3.size)) []).blk HIM.out (by simp))
    have HB4 := Lib.hid (HB3.out.alloc (by have := HB3.out.size; omega) (.cells #[.int .i64 V, .int .i64 H, .slice (some ⟨g2, 0, none⟩) NN NN] 24))
    have HZX := Lib.hid (alloc_new w3 #[.int .i64 V, .int .i64 H, .slice (some ⟨g2, 0, none⟩) NN NN] 24)
    obtain ⟨Z, hZ⟩ : ∃ Z, w3.heap.size = Z := ⟨_, rfl⟩
    rw [hZ] at HZX
    have HZ := Lib.hid hZ
    clear hr3 hB3 hb4 i0 i1 i2 HIM HR2 HL hVn hZ hNN
    obtain ⟨i0, i1, i2, _, _, _⟩ := box3 HIM4.out
    obtain ⟨p0, p1, p2, _, _, _⟩ := box3 HZX.out
    go_wp2_with fail
    rw [HZ.out]
    generalize w3.alloc (.cells #[.int .i64 V, .int .i64 H, .slice (some ⟨g2, 0, none⟩) NN NN] 24) = w4 at *
    refine (CALL.out w4 HR4.out HL4.out).mono ?_
    rintro e w5 ⟨g3, rfl, hO5, hB5⟩
    have hX4 : X ≤ w4.heap.size := by have := HB4.out.size; omega
    have hb6 := (Below.refl _ w5).alloc (Nat.le_refl _) (.cells #[.int .i64 W, .int .i64 H, .slice (some ⟨g3, 0, none⟩) n n] 24)
    have h46 := hB5.trans (hb6.mono hB5.size)
    have HR6 := Lib.hid ((own_reads' hO5).below hb6)
    have HM6 := Lib.hid (HM4.out.below h46)
    have HIM6 := Lib.hid ((Mods.of_below h46 []).blk HIM4.out (by simp))
    have HZX6 := Lib.hid ((Mods.of_below h46 []).blk HZX.out (by simp))
    have HB6 := Lib.hid (below_then HB4.out hX4 h46)
    have HYX := Lib.hid (alloc_new w5 #[.int .i64 W, .int .i64 H, .slice (some ⟨g3, 0, none⟩) n n] 24)
    obtain ⟨Y, hY⟩ : ∃ Y, w5.heap.size = Y := ⟨_, rfl⟩
    rw [hY] at HYX
    have HY := Lib.hid hY
    clear hb6 h46 hO5 hB5 i0 i1 i2 p0 p1 p2 hY
    obtain ⟨i0, i1, i2, _, _, _⟩ := box3 HIM6.out
    obtain ⟨p0, p1, p2, _, _, _⟩ := box3 HZX6.out
    obtain ⟨q0, q1, q2, _, _, _⟩ := box3 HYX.out
    go_wp2_with fail
    rw [HY.out]
    generalize w5.alloc (.cells #[.int .i64 W, .int .i64 H, .slice (some ⟨g3, 0, none⟩) n n] 24) = w6 at *
    have hX6 : X ≤ w6.heap.size := by have := HB6.out.size; omega
    refine (answers16 w6).mono ?_
    rintro e w7 ⟨rfl, hB7⟩
    have HB7 := Lib.hid (below_then HB6.out hX6 hB7)
    have HR7 := Lib.hid (HR6.out.below hB7)
    have HM7 := Lib.hid (HM6.out.below hB7)
    have HIM7 := Lib.hid ((Mods.of_below hB7 []).blk HIM6.out (by simp))
    have HZX7 := Lib.hid ((Mods.of_below hB7 []).blk HZX6.out (by simp))
    have HYX7 := Lib.hid ((Mods.of_below hB7 []).blk HYX.out (by simp))
    clear hB7 i0 i1 i2 p0 p1 p2 q0 q1 q2
    obtain ⟨i0, i1, i2, _, _, _⟩ := box3 HIM7.out
    obtain ⟨p0, p1, p2, _, _, _⟩ := box3 HZX7.out
    obtain ⟨q0, q1, q2, _, _, _⟩ := box3 HYX7.out
    have hX7 : X ≤ w7.heap.size := by have := HB7.out.size; omega
    go_wp2_with fail
    refine (same_same W H (some ⟨g3, 0, none⟩) A n n c ps w7 HR7.out HM7.out).mono ?_
    rintro e w8 ⟨rfl, hB8⟩
    have HB8 := Lib.hid (below_then HB7.out hX7 hB8)
    have HIM8 := Lib.hid ((Mods.of_below hB8 []).blk HIM7.out (by simp))
    have HZX8 := Lib.hid ((Mods.of_below hB8 []).blk HZX7.out (by simp))
    clear hB8 i0 i1 i2 p0 p1 p2 q0 q1 q2
    obtain ⟨i0, i1, i2, _, _, _⟩ := box3 HIM8.out
    obtain ⟨p0, p1, p2, _, _, _⟩ := box3 HZX8.out
    have hle' : (NN : Int) ≤ (n : Int) := by omega
    go_wp2_with fail
    go_ret
    exact ⟨rfl, by have := HX.out; rw [this]; exact HB8.out⟩
end Go.Proofs.Ytmgkdlkjcncniaa
