/- The reference's Packed where two to the 1 pixels are one. (Printed by genun.py RefPk.) -/
import Derived.Test.YtmgkdlkjcncniaaTabU
namespace Go.Proofs.Ytmgkdlkjcncniaa
open Go.RowKit
open Go.Proofs.YtmgkdlkjcncniaaW.PrintWords
set_option maxRecDepth 100000 in
set_option maxHeartbeats 4000000 in
theorem refPacked_b1 (W H : Nat) (A B : Option Addr) (n c m d : Nat) (ps ls : List Int) (wd : World) (HR : ReadsInt wd .u32 A n ps) (HS : ReadsInt wd .u32 B m ls) (hps : ∀ x ∈ ps, 0 ≤ x ∧ x < 4294967296) (hls : ∀ x ∈ ls, 0 ≤ x ∧ x < 4294967296) (h : okP W H n m = true) (V : Nat) (hV : blocksI W (bitsT m) = V) (hbB : bitsT m = 1) : Calls Try.prog 11 #[.agg #[.int .i64 W, .int .i64 H, .slice A n c], .slice B m d] wd fun e w' => Below wd.heap.size wd w' ∧
    ((∃ t, t < n ∧ fi ls (ps.getD t 0) = none ∧ e = .returned (.tuple #[.agg #[.int .i64 0, .int .i64 0, .slice none 0 0], .bool false])) ∨
    ((∀ t, t < n → found ls ps t) ∧ ∃ A2 c2, e = .returned (.tuple #[.agg #[.int .i64 V, .int .i64 H, .slice A2 (V * H) c2], .bool true]) ∧ ReadsInt w' .u32 A2 (V * H) ((List.range (V * H)).map fun I => (Tb.val W V 1 (pnum ls ps) n I : Int)))) := by
  have hm0 : (m : Int) ≤ 9223372036854775807 := by have := HS.2.1; omega
  unfold okP at h
  obtain ⟨hg, ht⟩ : goodI W H n = true ∧ goodT m = true := by simpa using h
  have hmm : 1 ≤ m ∧ m ≤ 256 := by unfold goodT at ht; exact of_decide_eq_true ht
  obtain ⟨hm1, hm2⟩ := hmm
  have hn1 : 1 ≤ n := by
    unfold goodI at hg
    have h := of_decide_eq_true hg
    have hpW := prod_room h.1 h.2.1 h.2.2.1 h.2.2.2.1
    omega
  obtain ⟨ad, hA, _⟩ := HR.2.2 (by omega)
  obtain ⟨bd, hB, _⟩ := HS.2.2 (by omega)
  subst hA hB
  have HRR := Lib.hid HR; have HSS := Lib.hid HS; have HPS := Lib.hid hps; have HLS := Lib.hid hls
  clear HR HS hps hls
  have hNl := fun k => pnum_lt (ls := ls) (ps := ps) HSS.out.1 hm2 k
  rw [hbB] at hV hNl
  have hb3 : (1 : Nat) ≤ 3 := by omega
  have HG := Lib.hid hg; have HV := Lib.hid hV
  have HB := Lib.hid hbB
  have HNL := Lib.hid hNl
  have hr := hg
  unfold goodI at hr
  obtain ⟨hW1, hW2, hH1, hH2, hnWH⟩ := of_decide_eq_true hr
  have hnN : n = W * H := by exact_mod_cast hnWH
  have HNW := Lib.hid hnN
  have hVn := blocks_nat (show ((W : Int) + 2 ^ 1 - 1) / 2 ^ 1 = (V : Int) from by have h := hV; unfold blocksI at h; exact h) (by omega)
  have HVN := Lib.hid hVn
  have hvl : V ≤ W ∧ 1 ≤ V := by
    have hp : 0 < 2 ^ 1 := Nat.pow_pos (by decide)
    refine ⟨?_, ?_⟩
    · rw [hVn, Nat.div_le_iff_le_mul_add_pred hp]
      have : W ≤ W * 2 ^ 1 := Nat.le_mul_of_pos_right W hp
      rw [Nat.mul_comm]; omega
    · rw [hVn, Nat.le_div_iff_mul_le hp]; omega
  obtain ⟨hv1, hv2⟩ := hvl
  obtain ⟨f, hf⟩ : ∃ f, (fun I => (Tb.val W V 1 (pnum ls ps) n I : Int)) = f := ⟨_, rfl⟩
  have HF := Lib.hid hf
  rw [hf]
  clear h hg ht hV hbB hNl hr hnWH hnN hVn hf
  go_enter Try.func11, Try.ntmps11
  have d3 : decide ((m : Int) < 1) = false := decide_eq_false (by omega)
  have d4 : decide (256 < (m : Int)) = false := decide_eq_false (by omega)
  have hc0 := alloc_new wd #[.int .i64 W, .int .i64 H, .slice (some ad) n c] 24
  have hr0 := alloc_new (wd.alloc (.cells #[.int .i64 W, .int .i64 H, .slice (some ad) n c] 24)) #[.int .i64 0, .int .i64 0, .slice none 0 0] 24
  rw [World.size_alloc] at hr0
  have hb1 := (Below.refl _ wd).alloc (Nat.le_refl _) (.cells #[.int .i64 W, .int .i64 H, .slice (some ad) n c] 24)
  have hb2 := hb1.alloc (by simp) (.cells #[.int .i64 0, .int .i64 0, .slice none 0 0] 24)
  have hc1 := (Below.heap_alloc (wd.alloc (.cells #[.int .i64 W, .int .i64 H, .slice (some ad) n c] 24)) (.cells #[.int .i64 0, .int .i64 0, .slice none 0 0] 24) wd.heap.size (by simp)).trans hc0
  have HC1 := Lib.hid hc1; have HRES := Lib.hid hr0; have HB2 := Lib.hid hb2
  have hs2 : ((wd.alloc (.cells #[.int .i64 W, .int .i64 H, .slice (some ad) n c] 24)).alloc (.cells #[.int .i64 0, .int .i64 0, .slice none 0 0] 24)).heap.size = wd.heap.size + 2 := by simp
  obtain ⟨p0, p1, p2, _, _, _⟩ := box3 HC1.out
  clear hc0 hr0 hb1 hb2 hc1
  go_wp2_with (first
    | (go_at_call 28; refine (refGood_any W H (some ad) n c _).mono ?_; rintro e w' ⟨rfl, hB⟩; rw [HG.out]; have HBG := Lib.hid hB; have hq0 := pw_cell_below hB p0; have hq1 := pw_cell_below hB p1; have hq2 := pw_cell_below hB p2; clear hB p0 p1 p2)
    | (go_at_call 19; refine (refPack_any _ _).mono ?_; rw [bitsZ_nat, HB.out]; rintro e w2' ⟨rfl, rfl⟩)
    | fail)
  have HPX := Lib.hid ((Mods.of_below HBG.out []).blk HRES.out (by simp))
  have HBW := Lib.hid (show Below wd.heap.size wd w' from below_then HB2.out (by omega) HBG.out)
  have hz1 : wd.heap.size + 2 ≤ w'.heap.size := by have := HBG.out.size; omega
  clear HBG HRES HB2 HC1 hs2
  obtain ⟨X, hX⟩ : ∃ X, wd.heap.size = X := ⟨_, rfl⟩
  obtain ⟨Z, hZ⟩ : ∃ Z, w'.heap.size = Z := ⟨_, rfl⟩
  have HX := Lib.hid hX; have HZ := Lib.hid hZ
  rw [hX] at hq0 hq1 hq2 hz1
  rw [hZ] at hz1
  rw [hX]
  have hpx := HPX.out
  rw [hX] at hpx
  have HPX := Lib.hid hpx
  have hbw := HBW.out
  rw [hX] at hbw
  have HBW := Lib.hid hbw
  clear hpx hbw hX hZ
  have hn2 : (n : Int) ≤ 268435456 := by
    have hpW := prod_room (W := W) (H := H) (by omega) (by omega) (by omega) (by omega)
    have := HNW.out
    have e : (n : Int) = (W : Int) * (H : Int) := by rw [this]; push_cast; rfl
    omega
  have hVH : V * H ≤ n := by rw [HNW.out]; exact Nat.mul_le_mul_right H hv1
  have hne := World.new_ne w' ⟨X, 1, none⟩ hq1
  have hne' : Z ≠ X := by omega
  go_cut [8] from 34 to 40 (fun t wx => t = .pointer (some ⟨Z, 0, none⟩) ∧ Hid (wx.heap[Z]? = some (.cells #[.int .i64 V, .int .i64 H, .slice none 0 0] 24 (0, 0))) ∧ Z + 1 ≤ wx.heap.size ∧ Hid (Below Z w' wx))
  case first =>
    go_region_held3 (fun wz => wz.cell? ⟨X, 0, none⟩ = some (.int .i64 W) ∧ wz.cell? ⟨X, 1, none⟩ = some (.int .i64 H)) ((first | exact ⟨hq0, hq1⟩ | go_keep)) ((first | (go_at_call 29; refine (refBlocks_any W 1 _ (by omega) (by omega) hb3).mono ?_; rintro e w2' ⟨rfl, rfl⟩; rw [HV.out]) | fail))
    all_goals
      go_wp2_with fail
      go_meet
      refine ⟨by rw [HZ.out], ?_, ?_, ?_⟩
      · have h := alloc_new w' #[.int .i64 V, .int .i64 H, .slice none 0 0] 24
        rw [HZ.out] at h; exact h
      · have := HZ.out; simp [World.drew]; omega
      · have h := below_drew ((Below.refl _ w').alloc (Nat.le_refl _) (.cells #[.int .i64 V, .int .i64 H, .slice none 0 0] 24))
        rw [HZ.out] at h; exact h
  case rest =>
    obtain ⟨rfl, HC, hsz, HBX⟩ := hcut
    go_wp2_with fail
    go_loopw [9] (fun yv wr => ∃ (y : Nat) (v : Value), y ≤ H ∧ yv = .int .i64 y ∧ Hid (wr.heap[Z]? = some (.cells #[.int .i64 V, .int .i64 H, v] 24 (0, 0))) ∧ Hid (wr.ownsRow (Z + 1) 31 1 v (y * V) (nums .u32 ((List.range (y * V)).map f))) ∧ Z + 1 ≤ wr.heap.size ∧ Hid (Below Z w' wr) ∧ Hid (∀ y' x' j, y' < y → x' < V → j < full W 1 x' → found ls ps (y' * W + x' * 2 ^ 1 + j))) (fun yv _ => H - (intOf yv).toNat)
    case atStart => exact ⟨0, _, Nat.zero_le _, rfl, HC.out, by rw [Nat.zero_mul]; exact own_nil _ _ _ _, hsz, HBX.out, Lib.hid (fun y' x' j h => by omega)⟩
    case round =>
      clear HC hsz HBX
      obtain ⟨y, v, hy, rfl, HC, HO, hsz, HBX, HFD⟩ := hrel
      have r1 := pw_cell_below (show Below w'.heap.size w' wr by rw [HZ.out]; exact HBX.out) hq1
      by_cases hyH : y < H
      · go_wp2_with fail
        clear r1
        go_loopw [10] (fun xv wr => ∃ (x : Nat) (v : Value), x ≤ V ∧ xv = .int .i64 x ∧ Hid (wr.heap[Z]? = some (.cells #[.int .i64 V, .int .i64 H, v] 24 (0, 0))) ∧ Hid (wr.ownsRow (Z + 1) 31 1 v (y * V + x) (nums .u32 ((List.range (y * V + x)).map f))) ∧ Z + 1 ≤ wr.heap.size ∧ Hid (Below Z w' wr) ∧ Hid (∀ y' x' j, y' < y ∨ (y' = y ∧ x' < x) → x' < V → j < full W 1 x' → found ls ps (y' * W + x' * 2 ^ 1 + j))) (fun xv _ => V - (intOf xv).toNat)
        case atStart => exact ⟨0, v, Nat.zero_le _, rfl, HC.out, HO.out, hsz, HBX.out, Lib.hid (fun y' x' j h => HFD.out y' x' j (by omega))⟩
        case round =>
          clear HC HO hsz HBX HFD
          clear v
          obtain ⟨x, v, hx, rfl, HC, HO, hsz, HBX, HFD⟩ := hrel
          have cv := (box3 HC.out).1
          by_cases hxV : x < V
          · obtain ⟨hK, hF1, hI1, hI2, hxW, hyW⟩ := cellK_full (b := 1) (H := H) HVN.out (by omega) hyH hxV
            have hval : f (y * V + x) = mk4 255 0 ((Tb.gs 1 (pnum ls ps) (y * W + x * 2 ^ 1) (full W 1 x) : Nat) : Int) 0 := by
              have hg := gs_full_lt (b := 1) (W := W) (x := x) (p0 := y * W + x * 2 ^ 1) HNL.out
              rw [mk4_cell hg, ← val_cell HVN.out (by omega) hyH hxV, ← HF.out, HNW.out]
            have hGl := gs_full_lt (b := 1) (W := W) (x := x) (p0 := y * W + x * 2 ^ 1) HNL.out
            rw [show x * 2 ^ 1 = x * 2 from rfl] at hval hGl hxW
            obtain ⟨F, hFF⟩ : ∃ F, full W 1 x = F := ⟨_, rfl⟩
            have hFd : F = min 2 (W - x * 2) := by rw [← hFF]; rfl
            rw [hFF] at hval hGl hF1
            obtain ⟨cx, hcx⟩ : ∃ cx, x * 2 = cx := ⟨_, rfl⟩
            rw [hcx] at hval hGl hFd hxW
            obtain ⟨r, hr⟩ : ∃ r, y * W = r := ⟨_, rfl⟩
            rw [hr] at hval hGl hyW
            rw [← HNW.out] at hyW
            have hcxl : cx < 16384 := by omega
            have e3 : IntKind.i64.wrap ((y : Int) * (W : Int)) = (r : Int) := by rw [show (y : Int) * (W : Int) = ((y * W : Nat) : Int) by norm_cast, hr, IntWalk.i64_in _ (by omega)]
            have e4 : (x : Int) * 2 = (cx : Int) := by first | (rw [← hcx]; push_cast; rfl) | simp
            obtain ⟨rc, hrc⟩ : ∃ rc, r + cx = rc := ⟨_, rfl⟩
            rw [hrc] at hval hGl
            have hrcW : rc + (W - cx) ≤ n := by omega
            have e5 : IntKind.i64.wrap ((r : Int) + (cx : Int)) = (rc : Int) := by rw [IntWalk.i64_in _ (by omega)]; omega
            have HVAL := Lib.hid hval
            have HFF := Lib.hid hFF
            have HRC := Lib.hid (And.intro hr hcx)
            clear hval hK hI1 hI2 hFF hcx
            go_wp2_with fail
            clear cv
            obtain ⟨wq, hwq⟩ : ∃ wq, wq = wr := ⟨wr, rfl⟩
            subst hwq
            have HBP := Lib.hid (show Below w'.heap.size w' wq by rw [HZ.out]; exact HBX.out)
            have HBT := Lib.hid (show Below wd.heap.size wd wq from by rw [HX.out]; exact below_then HBW.out (by have := HZ.out; omega) HBP.out)
            have HC0 := Lib.hid (pw_cell_below HBP.out hq0); have HC2 := Lib.hid (pw_cell_below HBP.out hq2)
            go_loopw [11, 12] (fun gv kv wz => ∃ j g : Nat, j ≤ 2 ∧ kv = .int .i64 ((j : Int) - 1) ∧ gv = .int .i64 g ∧ g ≤ 255 ∧ Hid (g + Tb.gs 1 (pnum ls ps) rc (min j F) = Tb.gs 1 (pnum ls ps) rc F) ∧ Hid (∀ i, j ≤ i → i < F → found ls ps (rc + i)) ∧ Hid (∃ q, wz = wq.drewN q)) (fun _ kv _ => (intOf kv + 1).toNat)
            case atStart => exact ⟨2, 0, Nat.le_refl _, rfl, rfl, by omega, Lib.hid (by rw [Nat.zero_add, show min 2 F = F by omega]), Lib.hid (fun i h1 h2 => by omega), Lib.hid ⟨0, rfl⟩⟩
            case round =>
              obtain ⟨j, g, hj, rfl, rfl, hg255, HG2, HFO, HQ⟩ := hrel
              by_cases hj0 : 0 < j
              · obtain ⟨k, rfl⟩ : ∃ k, j = k + 1 := ⟨j - 1, by omega⟩
                have ek : (((k + 1 : Nat) : Int) - 1) = (k : Int) := by omega
                rw [ek]
                have r0 : wr.cell? ⟨X, 0, none⟩ = some (.int .i64 W) := by obtain ⟨q, e⟩ := HQ.out; rw [e]; simpa using HC0.out
                by_cases hsk : W ≤ cx + k
                · go_wp2_with fail
                  go_roundw
                  case rel => exact ⟨k, g, by omega, by go_num, rfl, hg255, Lib.hid (gs_skip (by omega) HG2.out), Lib.hid (fun i h1 h2 => HFO.out i (by omega) h2), HQ.out⟩
                  case measure => first | (simp [intOf]; done) | (simp [intOf]; omega)
                · have hkF : k < F := by omega
                  obtain ⟨I, hI⟩ : ∃ I, rc + k = I := ⟨_, rfl⟩
                  have hIn : I < n := by omega
                  have e6 : IntKind.i64.wrap ((rc : Int) + (k : Int)) = (I : Int) := by rw [IntWalk.i64_in _ (by omega)]; omega
                  have hpc := Lib.hid ((HRR.out.below HBT.out).2.2 (by omega))
                  go_wp2_with fail
                  clear r0
                  go_loopw [13] (fun nv wz => ∃ i : Nat, i ≤ m ∧ nv = .int .i64 i ∧ Hid (∀ i', i' < i → ls.getD i' 0 ≠ ps.getD I 0) ∧ Hid (∃ q, wz = wq.drewN q)) (fun nv _ => m - (intOf nv).toNat)
                  case atStart => exact ⟨0, Nat.zero_le _, rfl, Lib.hid (fun i' h => by omega), HQ.out⟩
                  case round =>
                    clear HQ
                    obtain ⟨i, hi, rfl, HNO, HQ⟩ := hrel
                    by_cases him : i < m
                    · have r0 : wr.cell? ⟨X, 0, none⟩ = some (.int .i64 W) := by obtain ⟨q, e⟩ := HQ.out; rw [e]; simpa using HC0.out
                      have r2 : wr.cell? ⟨X, 2, none⟩ = some (.slice (some ad) n c) := by obtain ⟨q, e⟩ := HQ.out; rw [e]; simpa using HC2.out
                      have hpx : wr.cell? (ad.add I) = some (.int .u32 (ps.getD I 0)) := by
                        obtain ⟨a2, h2, h3⟩ := (HRR.out.below HBT.out).2.2 (by omega)
                        cases h2
                        obtain ⟨q, e⟩ := HQ.out; rw [e]; simpa using h3 I hIn
                      have hpl : wr.cell? (bd.add i) = some (.int .u32 (ls.getD i 0)) := by
                        obtain ⟨a2, h2, h3⟩ := (HSS.out.below HBT.out).2.2 (by omega)
                        cases h2
                        obtain ⟨q, e⟩ := HQ.out; rw [e]; simpa using h3 i him
                      have hd : decide ((i : Int) < (m : Int)) = true := by simp; omega
                      by_cases hzP : ls.getD i 0 = ps.getD I 0
                      · rw [hzP] at hpl
                        have hfi := fi_first HNO.out (by rw [HSS.out.1]; exact him) hzP
                        have hpn : pnum ls ps (rc + k) = i := by unfold pnum; rw [hI, hfi]; rfl
                        have hfd : found ls ps (rc + k) := by unfold found; rw [hI, hfi]; rfl
                        have hgd := gs_down hkF HG2.out hpn
                        rw [show k * (8 / 2 ^ 1) = k * 4 from rfl] at hgd
                        obtain ⟨s, hs⟩ : ∃ s, k * 4 = s := ⟨_, rfl⟩
                        rw [hs] at hgd
                        obtain ⟨v1, hv1⟩ : ∃ v1, i * 2 ^ s = v1 := ⟨_, rfl⟩
                        rw [hv1] at hgd
                        have hgl : g + v1 ≤ 255 := by omega
                        have hs8 : s ≤ 7 := by omega
                        have HGD := Lib.hid hgd; have HFND := Lib.hid hfd
                        have hss : (4 : Int) * (k : Int) = (s : Int) := by rw [← hs]; push_cast; omega
                        have hvv : (i : Int) * 2 ^ s = (v1 : Int) := by rw [← hv1]; push_cast; rfl
                        have hne3 : ((i : Int) == (m : Int)) = false := by simp; omega
                        clear hfi hpn hfd hgd hs hv1
                        generalize ps.getD I 0 = P at *
                        go_wp2_with fail
                        go_quiet (fail)
                        go_wp2_with fail
                        refine ⟨⟨k, g + v1, by omega, rfl, by push_cast; rfl, hgl, HGD, Lib.hid (fun i' h1 h2 => ?_), Lib.hid (by obtain ⟨q, e⟩ := HQ.out; exact ⟨q + nq, by rw [e, World.drewN_drewN]⟩)⟩, by first | (simp [intOf]; done) | (simp [intOf]; omega)⟩
                        by_cases hik : i' = k
                        · subst hik; exact HFND.out
                        · exact HFO.out i' (by omega) h2
                      · have hne4 : (ls.getD i 0 == ps.getD I 0) = false := by simpa using hzP
                        have HNO2 := Lib.hid (show ∀ i', i' < i + 1 → ls.getD i' 0 ≠ ps.getD I 0 from fun i' h => by
                          by_cases hii : i' = i
                          · subst hii; exact hzP
                          · exact HNO.out i' (by omega))
                        clear HNO hzP
                        generalize ps.getD I 0 = P at *
                        generalize ls.getD i 0 = z at *
                        go_wp2_with fail
                        go_quiet (fail)
                        go_wp2_with fail
                        go_roundw
                        case rel => exact ⟨i + 1, by omega, by go_num, HNO2.out, by obtain ⟨q, e⟩ := HQ.out; exact ⟨q + nq, by rw [e, World.drewN_drewN]⟩⟩
                        case measure => simp [intOf]; omega
                    · have : i = m := by omega
                      subst this
                      have hd : decide ((i : Int) < (i : Int)) = false := by simp
                      have hmiss : fi ls (ps.getD I 0) = none := fi_miss (fun i' h => HNO.out i' (by rw [HSS.out.1] at h; exact h))
                      have HMISS := Lib.hid hmiss
                      clear hmiss
                      go_wp2_with fail
                      go_quiet (fail)
                      have hbn : Below wd.heap.size wd (wr.drewN nq) := by
                        obtain ⟨q, e⟩ := HQ.out
                        rw [e, World.drewN_drewN]
                        exact below_then HBT.out (by have := HBT.out.size; omega) ⟨rfl, rfl, rfl, Nat.le_of_eq (by rw [heap_drewN]), fun _ _ => by rw [heap_drewN]⟩
                      have hpx2 : (wr.drewN nq).heap[X + 1]? = some (.cells #[.int .i64 0, .int .i64 0, .slice none 0 0] 24 (0, 0)) := by
                        obtain ⟨q, e⟩ := HQ.out
                        rw [e, World.drewN_drewN, heap_drewN]
                        exact (Mods.of_below HBP.out []).blk HPX.out (by simp)
                      have HBN := Lib.hid hbn; have HPX2 := Lib.hid hpx2
                      clear hbn hpx2
                      generalize wr.drewN nq = wz at *
                      obtain ⟨u0, u1, u2, g0, g1, g2⟩ := box3 HPX2.out
                      go_wp2_with fail
                      refine bodyPost_ret (results_box rfl _ _ _ _ _ _ _ rfl (blk_set3 HPX2.out _ _ _) Try.underlying24 rfl size_image) rfl ?_
                      exact ⟨below_box HBN.out (by have := HX.out; omega) _ _ _, .inl ⟨I, hIn, HMISS.out, rfl⟩⟩
              · have : j = 0 := by omega
                subst this
                have hgv : g = Tb.gs 1 (pnum ls ps) rc F := by
                  have h := HG2.out
                  rw [Nat.zero_min] at h
                  simpa [Tb.gs] using h
                have HGV := Lib.hid hgv
                clear hgv
                have hbq : Below wq.heap.size wq wr := by
                  obtain ⟨q, e⟩ := HQ.out
                  rw [e]; exact ⟨rfl, rfl, rfl, Nat.le_of_eq (by rw [heap_drewN]), fun _ _ => by rw [heap_drewN]⟩
                have HCr := Lib.hid (show wr.heap[Z]? = some (.cells #[.int .i64 V, .int .i64 H, v] 24 (0, 0)) from by obtain ⟨q, e⟩ := HQ.out; rw [e, heap_drewN]; exact HC.out)
                have HOr := Lib.hid (pw_own_below HO.out hbq)
                have hsr : Z + 1 ≤ wr.heap.size := by have := hbq.size; omega
                have HBr := Lib.hid (below_then HBX.out (by omega) hbq)
                obtain ⟨pv, hpv⟩ : ∃ pv, mk4 255 0 (g : Int) 0 = pv := ⟨_, rfl⟩
                obtain ⟨T, hT⟩ : ∃ T, y * V + x = T := ⟨_, rfl⟩
                have hfT : pv = f T := by
                  have h := HVAL.out
                  rw [hT, ← HGV.out, hpv] at h; exact h.symm
                have HFT := Lib.hid hfT
                have HPV := Lib.hid hpv
                have HTT := Lib.hid hT
                have hTn : T < n := by
                  have h1 : (y + 1) * V ≤ H * V := Nat.mul_le_mul_right V hyH
                  rw [Nat.add_mul, Nat.one_mul, Nat.mul_comm H V] at h1
                  omega
                have hFin := Lib.hid (show ∀ y' x' j, y' < y ∨ (y' = y ∧ x' < x + 1) → x' < V → j < full W 1 x' → found ls ps (y' * W + x' * 2 ^ 1 + j) from by
                  intro y' x' j h1 h2 h3
                  by_cases hx' : y' = y ∧ x' = x
                  · obtain ⟨rfl, rfl⟩ := hx'
                    rw [HFF.out] at h3
                    have h := HFO.out j (by omega) h3
                    rw [← hrc, ← HRC.out.1, ← HRC.out.2] at h
                    exact h
                  · exact HFD.out y' x' j (by omega) h2 h3)
                rw [hT] at HOr
                have cv := (box3 HCr.out).2.2.1
                clear hfT hpv hT hbq HC HO hsz HBX HFD
                go_wp2_with fail
                refine wp_region_noPanic ?_
                refine wp_region_held_drew (S := fun _ => True) (by kernel_rfl) trivial (fun hHeld => ?_)
                refine wpAnyH_take (i := 0) (oi := _) (v := ?_) (by simp only [List.getElem?_toArray, List.getElem?_cons_zero]; rfl) (by kernel_rfl) (by kernel_rfl) (by kernel_rfl) (fun _ _ _ h => h) (Or.inl ⟨by rfl, ?_⟩) hHeld ?_
                rotate_left 1
                · intro w hSw
                  try dsimp only at hSw
                  first | (go_simp; done) | (go_simp; with_reducible rfl)
                try simp only [Act.put, List.setIfInBounds_toArray, List.set_cons_zero, List.set_cons_succ]
                refine wpAnyH_take (i := 2) (oi := _) (v := ?_) (by simp only [List.getElem?_toArray, List.getElem?_cons_succ, List.getElem?_cons_zero]; rfl) (by kernel_rfl) (by kernel_rfl) (by kernel_rfl) (fun _ _ _ h => h) (Or.inl ⟨by rfl, ?_⟩) hHeld ?_
                rotate_left 1
                · intro w hSw
                  try dsimp only at hSw
                  first | (go_simp; done) | (go_simp; with_reducible rfl)
                try simp only [Act.put, List.setIfInBounds_toArray, List.set_cons_zero, List.set_cons_succ]
                refine wpAnyH_take (i := 3) (oi := _) (v := ?_) (by simp only [List.getElem?_toArray, List.getElem?_cons_succ, List.getElem?_cons_zero]; rfl) (by kernel_rfl) (by kernel_rfl) (by kernel_rfl) (fun _ _ _ h => h) (Or.inl ⟨by rfl, ?_⟩) hHeld ?_
                rotate_left 1
                · intro w hSw
                  try dsimp only at hSw
                  first | (go_simp; done) | (go_simp; with_reducible rfl)
                try simp only [Act.put, List.setIfInBounds_toArray, List.set_cons_zero, List.set_cons_succ]
                refine wpAnyH_ready (rs := [1, 4]) (by kernel_rfl) (by simp) ?_
                refine AllReadyH.cons (o := _) (by simp only [List.getElem?_toArray, List.getElem?_cons_succ, List.getElem?_cons_zero]; rfl) (fun K hK => ?_) ?_
                · go_simp
                  refine hK.out _ _ trivial (fun hHeld2 => ?_)
                  clear hK K hHeld
                  have hHeld := hHeld2
                  clear hHeld2
                  try simp only [Act.put, List.setIfInBounds_toArray, List.set_cons_zero, List.set_cons_succ]
                  refine wpAnyH_ready (rs := [4]) (by kernel_rfl) (by simp) ?_
                  refine AllReadyH.cons (o := _) (by simp only [List.getElem?_toArray, List.getElem?_cons_succ, List.getElem?_cons_zero]; rfl) (fun K hK => ?_) ?_
                  · go_simp
                    refine (make_any 255 0 g 0 _ (by omega) (by omega) (by omega) (by omega)).mono ?_
                    rintro e wm ⟨rfl, hBm⟩
                    rw [HPV.out]
                    have HCm := Lib.hid ((Mods.of_below hBm []).blk (show wr.drew.heap[Z]? = _ from HCr.out) (by simp))
                    have HOm := Lib.hid (pw_own_below (show wr.drew.ownsRow _ _ _ _ _ _ from HOr.out) hBm)
                    have HBm := Lib.hid (below_then HBr.out.drew (Nat.le_of_succ_le hsr) hBm)
                    have hsm : Z + 1 ≤ wm.heap.size := Nat.le_trans hsr hBm.size
                    have cvm := (box3 HCm.out).2.2.1
                    have cva : ∀ o, (wm.alloc o).cell? ⟨Z, 2, none⟩ = some v := fun o => pw_cell_below ((Below.refl _ _).alloc (Nat.le_refl _) o) cvm
                    clear hBm
                    refine hK.out _ _ trivial (fun hHeld2 => ?_)
                    clear hK K hHeld
                    have hHeld := hHeld2
                    clear hHeld2
                    try simp only [Act.put, List.setIfInBounds_toArray, List.set_cons_zero, List.set_cons_succ]
                    refine wpAnyH_ready (rs := [5]) (by kernel_rfl) (by simp) ?_
                    refine AllReadyH.cons (o := _) (by simp only [List.getElem?_toArray, List.getElem?_cons_succ, List.getElem?_cons_zero]; rfl) (fun K hK => ?_) ?_
                    · go_simp
                      refine hK.out _ _ trivial (fun hHeld2 => ?_)
                      clear hK K hHeld
                      have hHeld := hHeld2
                      clear hHeld2
                      try simp only [Act.put, List.setIfInBounds_toArray, List.set_cons_zero, List.set_cons_succ]
                      refine wpAnyH_ready (rs := [6]) (by kernel_rfl) (by simp) ?_
                      refine AllReadyH.cons (o := _) (by simp only [List.getElem?_toArray, List.getElem?_cons_succ, List.getElem?_cons_zero]; rfl) (fun K hK => ?_) ?_
                      · obtain ⟨i0, hi, hz0, hz1, hz2⟩ := info_parts info_u32
                        refine step_append_lies _ (by rfl) _ _ 22 (by rfl) (Z + 1) 31 i0 (.int .u32 0) 1 4 Try.underlying22 hi hz0 hz1 hz2 (by rfl) (by decide) v T (nums .u32 ((List.range T).map f)) (by rfl) (HOm.out.alloc _) ⟨wm.heap.size, 0, none⟩ 1 1 [.int .u32 pv] (by rfl) (by rfl) (World.news_of_block (World.alloc_heap_new _ _)) (by simp; rfl) (by decide) (by unfold maxLen; omega) (by omega) (by simp; omega) _ (by rfl) ?_
                        intro g1 cap w1 hown hg hat hgl
                        have hc4 := box_grown ((Mods.of_below ((Below.refl _ wm).alloc (Nat.le_refl _) (.cells #[.int .u32 pv] 31)) []).blk HCm.out (by simp)) (HOm.out.alloc (.cells #[.int .u32 pv] 31)) hg
                        obtain ⟨_, _, w2c, _, _, w2f⟩ := box3 hc4
                        have HC4 := Lib.hid hc4
                        have HOW := Lib.hid hown
                        have HGR := Lib.hid hg
                        clear hc4 hown hg hat
                        refine hK.out _ _ trivial (fun hHeld2 => ?_)
                        clear hK K hHeld
                        have hHeld := hHeld2
                        clear hHeld2
                        try simp only [Act.put, List.setIfInBounds_toArray, List.set_cons_zero, List.set_cons_succ]
                        refine wpAnyH_take (i := 7) (oi := _) (v := ?_) (by simp only [List.getElem?_toArray, List.getElem?_cons_succ, List.getElem?_cons_zero]; rfl) (by kernel_rfl) (by kernel_rfl) (by kernel_rfl) (fun _ _ _ h => h) (Or.inl ⟨by rfl, ?_⟩) hHeld ?_
                        rotate_left 1
                        · intro w hSw
                          try dsimp only at hSw
                          first | (go_simp; done) | (go_simp; with_reducible rfl)
                        try simp only [Act.put, List.setIfInBounds_toArray, List.set_cons_zero, List.set_cons_succ]
                        refine wpAnyH_ready (rs := [8]) (by kernel_rfl) (by simp) ?_
                        refine AllReadyH.cons (o := _) (by simp only [List.getElem?_toArray, List.getElem?_cons_succ, List.getElem?_cons_zero]; rfl) (fun K hK => ?_) ?_
                        · go_simp
                          refine hK.out _ _ trivial (fun hHeld2 => ?_)
                          clear hK K hHeld
                          have hHeld := hHeld2
                          clear hHeld2
                          try simp only [Act.put, List.setIfInBounds_toArray, List.set_cons_zero, List.set_cons_succ]
                          refine wpAnyH_done (by kernel_rfl) ?_ _
                          refine NoPanic.normal ?_
                          obtain ⟨g1', c1', he, hg1, _⟩ := some_own HOW.out (by omega)
                          cases he
                          have hli : nums .u32 ((List.range T).map f) ++ [Value.int .u32 pv] = nums .u32 ((List.range (T + 1)).map f) := by rw [← fill_more HFT.out]; simp [nums]
                          have how := HOW.out
                          rw [hli] at how
                          have HNX := Lib.hid (blk_set HC4.out 2 (.slice (some ⟨g1, 0, none⟩) (T + 1) cap))
                          have HNO := Lib.hid (own_store how hg1 (.slice (some ⟨g1, 0, none⟩) (T + 1) cap))
                          have HBZ := Lib.hid (((HBm.out.alloc (by omega) (.cells #[.int .u32 pv] 31)).grown HGR.out (by simp; omega) (fun r hr => by have := own_rows HOm.out r hr; omega)).setCell (p := ⟨Z, 2, none⟩) (Nat.le_refl _) (.slice (some ⟨g1, 0, none⟩) (T + 1) cap))
                          have hns : Z + 1 ≤ (w1.setCell ⟨Z, 2, none⟩ (.slice (some ⟨g1, 0, none⟩) (T + 1) cap)).heap.size := by have := blk_lt HC4.out; simp [World.setCell]; omega
                          clear hli how
                          go_wp2_with fail
                          go_roundw
                          case rel => exact ⟨x + 1, _, by omega, by go_num, HNX.out, by rw [← Nat.add_assoc, HTT.out]; exact HNO.out, hns, HBZ.out, hFin.out⟩
                          case measure => simp [intOf]; omega
                        exact AllReadyH.nil
                      exact AllReadyH.nil
                    exact AllReadyH.nil
                  exact AllReadyH.nil
                refine AllReadyH.cons (o := _) (by simp only [List.getElem?_toArray, List.getElem?_cons_succ, List.getElem?_cons_zero]; rfl) (fun K hK => ?_) ?_
                · go_simp
                  refine (make_any 255 0 g 0 _ (by omega) (by omega) (by omega) (by omega)).mono ?_
                  rintro e wm ⟨rfl, hBm⟩
                  rw [HPV.out]
                  have HCm := Lib.hid ((Mods.of_below hBm []).blk (show wr.drew.heap[Z]? = _ from HCr.out) (by simp))
                  have HOm := Lib.hid (pw_own_below (show wr.drew.ownsRow _ _ _ _ _ _ from HOr.out) hBm)
                  have HBm := Lib.hid (below_then HBr.out.drew (Nat.le_of_succ_le hsr) hBm)
                  have hsm : Z + 1 ≤ wm.heap.size := Nat.le_trans hsr hBm.size
                  have cvm := (box3 HCm.out).2.2.1
                  have cva : ∀ o, (wm.alloc o).cell? ⟨Z, 2, none⟩ = some v := fun o => pw_cell_below ((Below.refl _ _).alloc (Nat.le_refl _) o) cvm
                  clear hBm
                  refine hK.out _ _ trivial (fun hHeld2 => ?_)
                  clear hK K hHeld
                  have hHeld := hHeld2
                  clear hHeld2
                  try simp only [Act.put, List.setIfInBounds_toArray, List.set_cons_zero, List.set_cons_succ]
                  refine wpAnyH_ready (rs := [1, 5]) (by kernel_rfl) (by simp) ?_
                  refine AllReadyH.cons (o := _) (by simp only [List.getElem?_toArray, List.getElem?_cons_succ, List.getElem?_cons_zero]; rfl) (fun K hK => ?_) ?_
                  · go_simp
                    refine hK.out _ _ trivial (fun hHeld2 => ?_)
                    clear hK K hHeld
                    have hHeld := hHeld2
                    clear hHeld2
                    try simp only [Act.put, List.setIfInBounds_toArray, List.set_cons_zero, List.set_cons_succ]
                    refine wpAnyH_ready (rs := [5]) (by kernel_rfl) (by simp) ?_
                    refine AllReadyH.cons (o := _) (by simp only [List.getElem?_toArray, List.getElem?_cons_succ, List.getElem?_cons_zero]; rfl) (fun K hK => ?_) ?_
                    · go_simp
                      refine hK.out _ _ trivial (fun hHeld2 => ?_)
                      clear hK K hHeld
                      have hHeld := hHeld2
                      clear hHeld2
                      try simp only [Act.put, List.setIfInBounds_toArray, List.set_cons_zero, List.set_cons_succ]
                      refine wpAnyH_ready (rs := [6]) (by kernel_rfl) (by simp) ?_
                      refine AllReadyH.cons (o := _) (by simp only [List.getElem?_toArray, List.getElem?_cons_succ, List.getElem?_cons_zero]; rfl) (fun K hK => ?_) ?_
                      · obtain ⟨i0, hi, hz0, hz1, hz2⟩ := info_parts info_u32
                        refine step_append_lies _ (by rfl) _ _ 22 (by rfl) (Z + 1) 31 i0 (.int .u32 0) 1 4 Try.underlying22 hi hz0 hz1 hz2 (by rfl) (by decide) v T (nums .u32 ((List.range T).map f)) (by rfl) (HOm.out.alloc _) ⟨wm.heap.size, 0, none⟩ 1 1 [.int .u32 pv] (by rfl) (by rfl) (World.news_of_block (World.alloc_heap_new _ _)) (by simp; rfl) (by decide) (by unfold maxLen; omega) (by omega) (by simp; omega) _ (by rfl) ?_
                        intro g1 cap w1 hown hg hat hgl
                        have hc4 := box_grown ((Mods.of_below ((Below.refl _ wm).alloc (Nat.le_refl _) (.cells #[.int .u32 pv] 31)) []).blk HCm.out (by simp)) (HOm.out.alloc (.cells #[.int .u32 pv] 31)) hg
                        obtain ⟨_, _, w2c, _, _, w2f⟩ := box3 hc4
                        have HC4 := Lib.hid hc4
                        have HOW := Lib.hid hown
                        have HGR := Lib.hid hg
                        clear hc4 hown hg hat
                        refine hK.out _ _ trivial (fun hHeld2 => ?_)
                        clear hK K hHeld
                        have hHeld := hHeld2
                        clear hHeld2
                        try simp only [Act.put, List.setIfInBounds_toArray, List.set_cons_zero, List.set_cons_succ]
                        refine wpAnyH_take (i := 7) (oi := _) (v := ?_) (by simp only [List.getElem?_toArray, List.getElem?_cons_succ, List.getElem?_cons_zero]; rfl) (by kernel_rfl) (by kernel_rfl) (by kernel_rfl) (fun _ _ _ h => h) (Or.inl ⟨by rfl, ?_⟩) hHeld ?_
                        rotate_left 1
                        · intro w hSw
                          try dsimp only at hSw
                          first | (go_simp; done) | (go_simp; with_reducible rfl)
                        try simp only [Act.put, List.setIfInBounds_toArray, List.set_cons_zero, List.set_cons_succ]
                        refine wpAnyH_ready (rs := [8]) (by kernel_rfl) (by simp) ?_
                        refine AllReadyH.cons (o := _) (by simp only [List.getElem?_toArray, List.getElem?_cons_succ, List.getElem?_cons_zero]; rfl) (fun K hK => ?_) ?_
                        · go_simp
                          refine hK.out _ _ trivial (fun hHeld2 => ?_)
                          clear hK K hHeld
                          have hHeld := hHeld2
                          clear hHeld2
                          try simp only [Act.put, List.setIfInBounds_toArray, List.set_cons_zero, List.set_cons_succ]
                          refine wpAnyH_done (by kernel_rfl) ?_ _
                          refine NoPanic.normal ?_
                          obtain ⟨g1', c1', he, hg1, _⟩ := some_own HOW.out (by omega)
                          cases he
                          have hli : nums .u32 ((List.range T).map f) ++ [Value.int .u32 pv] = nums .u32 ((List.range (T + 1)).map f) := by rw [← fill_more HFT.out]; simp [nums]
                          have how := HOW.out
                          rw [hli] at how
                          have HNX := Lib.hid (blk_set HC4.out 2 (.slice (some ⟨g1, 0, none⟩) (T + 1) cap))
                          have HNO := Lib.hid (own_store how hg1 (.slice (some ⟨g1, 0, none⟩) (T + 1) cap))
                          have HBZ := Lib.hid (((HBm.out.alloc (by omega) (.cells #[.int .u32 pv] 31)).grown HGR.out (by simp; omega) (fun r hr => by have := own_rows HOm.out r hr; omega)).setCell (p := ⟨Z, 2, none⟩) (Nat.le_refl _) (.slice (some ⟨g1, 0, none⟩) (T + 1) cap))
                          have hns : Z + 1 ≤ (w1.setCell ⟨Z, 2, none⟩ (.slice (some ⟨g1, 0, none⟩) (T + 1) cap)).heap.size := by have := blk_lt HC4.out; simp [World.setCell]; omega
                          clear hli how
                          go_wp2_with fail
                          go_roundw
                          case rel => exact ⟨x + 1, _, by omega, by go_num, HNX.out, by rw [← Nat.add_assoc, HTT.out]; exact HNO.out, hns, HBZ.out, hFin.out⟩
                          case measure => simp [intOf]; omega
                        exact AllReadyH.nil
                      exact AllReadyH.nil
                    exact AllReadyH.nil
                  refine AllReadyH.cons (o := _) (by simp only [List.getElem?_toArray, List.getElem?_cons_succ, List.getElem?_cons_zero]; rfl) (fun K hK => ?_) ?_
                  · go_simp
                    refine hK.out _ _ trivial (fun hHeld2 => ?_)
                    clear hK K hHeld
                    have hHeld := hHeld2
                    clear hHeld2
                    try simp only [Act.put, List.setIfInBounds_toArray, List.set_cons_zero, List.set_cons_succ]
                    refine wpAnyH_ready (rs := [1]) (by kernel_rfl) (by simp) ?_
                    refine AllReadyH.cons (o := _) (by simp only [List.getElem?_toArray, List.getElem?_cons_succ, List.getElem?_cons_zero]; rfl) (fun K hK => ?_) ?_
                    · go_simp
                      refine hK.out _ _ trivial (fun hHeld2 => ?_)
                      clear hK K hHeld
                      have hHeld := hHeld2
                      clear hHeld2
                      try simp only [Act.put, List.setIfInBounds_toArray, List.set_cons_zero, List.set_cons_succ]
                      refine wpAnyH_ready (rs := [6]) (by kernel_rfl) (by simp) ?_
                      refine AllReadyH.cons (o := _) (by simp only [List.getElem?_toArray, List.getElem?_cons_succ, List.getElem?_cons_zero]; rfl) (fun K hK => ?_) ?_
                      · obtain ⟨i0, hi, hz0, hz1, hz2⟩ := info_parts info_u32
                        refine step_append_lies _ (by rfl) _ _ 22 (by rfl) (Z + 1) 31 i0 (.int .u32 0) 1 4 Try.underlying22 hi hz0 hz1 hz2 (by rfl) (by decide) v T (nums .u32 ((List.range T).map f)) (by rfl) (HOm.out.alloc _) ⟨wm.heap.size, 0, none⟩ 1 1 [.int .u32 pv] (by rfl) (by rfl) (World.news_of_block (World.alloc_heap_new _ _)) (by simp; rfl) (by decide) (by unfold maxLen; omega) (by omega) (by simp; omega) _ (by rfl) ?_
                        intro g1 cap w1 hown hg hat hgl
                        have hc4 := box_grown ((Mods.of_below ((Below.refl _ wm).alloc (Nat.le_refl _) (.cells #[.int .u32 pv] 31)) []).blk HCm.out (by simp)) (HOm.out.alloc (.cells #[.int .u32 pv] 31)) hg
                        obtain ⟨_, _, w2c, _, _, w2f⟩ := box3 hc4
                        have HC4 := Lib.hid hc4
                        have HOW := Lib.hid hown
                        have HGR := Lib.hid hg
                        clear hc4 hown hg hat
                        refine hK.out _ _ trivial (fun hHeld2 => ?_)
                        clear hK K hHeld
                        have hHeld := hHeld2
                        clear hHeld2
                        try simp only [Act.put, List.setIfInBounds_toArray, List.set_cons_zero, List.set_cons_succ]
                        refine wpAnyH_take (i := 7) (oi := _) (v := ?_) (by simp only [List.getElem?_toArray, List.getElem?_cons_succ, List.getElem?_cons_zero]; rfl) (by kernel_rfl) (by kernel_rfl) (by kernel_rfl) (fun _ _ _ h => h) (Or.inl ⟨by rfl, ?_⟩) hHeld ?_
                        rotate_left 1
                        · intro w hSw
                          try dsimp only at hSw
                          first | (go_simp; done) | (go_simp; with_reducible rfl)
                        try simp only [Act.put, List.setIfInBounds_toArray, List.set_cons_zero, List.set_cons_succ]
                        refine wpAnyH_ready (rs := [8]) (by kernel_rfl) (by simp) ?_
                        refine AllReadyH.cons (o := _) (by simp only [List.getElem?_toArray, List.getElem?_cons_succ, List.getElem?_cons_zero]; rfl) (fun K hK => ?_) ?_
                        · go_simp
                          refine hK.out _ _ trivial (fun hHeld2 => ?_)
                          clear hK K hHeld
                          have hHeld := hHeld2
                          clear hHeld2
                          try simp only [Act.put, List.setIfInBounds_toArray, List.set_cons_zero, List.set_cons_succ]
                          refine wpAnyH_done (by kernel_rfl) ?_ _
                          refine NoPanic.normal ?_
                          obtain ⟨g1', c1', he, hg1, _⟩ := some_own HOW.out (by omega)
                          cases he
                          have hli : nums .u32 ((List.range T).map f) ++ [Value.int .u32 pv] = nums .u32 ((List.range (T + 1)).map f) := by rw [← fill_more HFT.out]; simp [nums]
                          have how := HOW.out
                          rw [hli] at how
                          have HNX := Lib.hid (blk_set HC4.out 2 (.slice (some ⟨g1, 0, none⟩) (T + 1) cap))
                          have HNO := Lib.hid (own_store how hg1 (.slice (some ⟨g1, 0, none⟩) (T + 1) cap))
                          have HBZ := Lib.hid (((HBm.out.alloc (by omega) (.cells #[.int .u32 pv] 31)).grown HGR.out (by simp; omega) (fun r hr => by have := own_rows HOm.out r hr; omega)).setCell (p := ⟨Z, 2, none⟩) (Nat.le_refl _) (.slice (some ⟨g1, 0, none⟩) (T + 1) cap))
                          have hns : Z + 1 ≤ (w1.setCell ⟨Z, 2, none⟩ (.slice (some ⟨g1, 0, none⟩) (T + 1) cap)).heap.size := by have := blk_lt HC4.out; simp [World.setCell]; omega
                          clear hli how
                          go_wp2_with fail
                          go_roundw
                          case rel => exact ⟨x + 1, _, by omega, by go_num, HNX.out, by rw [← Nat.add_assoc, HTT.out]; exact HNO.out, hns, HBZ.out, hFin.out⟩
                          case measure => simp [intOf]; omega
                        exact AllReadyH.nil
                      exact AllReadyH.nil
                    exact AllReadyH.nil
                  exact AllReadyH.nil
                exact AllReadyH.nil
          · have : x = V := by omega
            subst this
            go_wp2_with fail
            go_roundw
            case rel => exact ⟨y + 1, v, by omega, by go_num, HC.out, by rw [Nat.add_mul, Nat.one_mul]; exact HO.out, hsz, HBX.out, Lib.hid (fun y' x' j h h1 => HFD.out y' x' j (by omega) h1)⟩
            case measure => simp [intOf]; omega
      · have : y = H := by omega
        subst this
        obtain ⟨A2, c3, rfl, hr2⟩ := own_reads HO.out
        have HR2 := Lib.hid hr2
        clear hr2
        obtain ⟨c0, c1, c2, f0, f1, f2⟩ := box3 HC.out
        have hBZ : Below X wd wr := below_then HBW.out (by have := HZ.out; omega) (by rw [HZ.out]; exact HBX.out)
        have HPX2 := Lib.hid ((Mods.of_below (show Below w'.heap.size w' wr by rw [HZ.out]; exact HBX.out) []).blk HPX.out (by simp))
        have HBB := Lib.hid hBZ
        clear hBZ
        obtain ⟨u0, u1, u2, g0, g1, g2⟩ := box3 HPX2.out
        go_wp2_with fail
        refine bodyPost_ret (results_box rfl _ _ _ _ _ _ _ rfl (blk_set3 HPX2.out _ _ _) Try.underlying24 rfl size_image) rfl ?_
        refine ⟨by rw [HX.out]; exact below_box HBB.out (by omega) _ _ _, .inr ⟨fun t ht => ?_, A2, c3, ?_, ?_⟩⟩
        · obtain ⟨y', x', j, h1, h2, h3, h4⟩ := cell_of HVN.out (by omega) (show t < W * y by rw [← HNW.out]; exact ht)
          have h := HFD.out y' x' j h1 h2 h3
          rw [h4] at h; exact h
        · rw [Nat.mul_comm V]; rfl
        · rw [Nat.mul_comm V]
          refine ReadsInt.mods HR2.out (mods_box _ _ _ _ _) ?_
          intro a ha
          subst ha
          have h1 := own_rows HO.out a.block (by simp [Value.ownBlock])
          simp; omega
end Go.Proofs.Ytmgkdlkjcncniaa
