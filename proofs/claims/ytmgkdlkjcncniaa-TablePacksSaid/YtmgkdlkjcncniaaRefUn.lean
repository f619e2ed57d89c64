/- The reference's Unpacked where two to the 0 pixels are one. (Printed by genun.py.) -/
import Derived.Test.YtmgkdlkjcncniaaBoxRow
namespace Go.Proofs.Ytmgkdlkjcncniaa
open Go.RowKit
open Go.Proofs.YtmgkdlkjcncniaaW.PrintWords
set_option maxRecDepth 100000 in
set_option maxHeartbeats 4000000 in
theorem refUnpacked_b0 (W H w : Nat) (A B : Option Addr) (n c m d : Nat) (ps ls : List Int) (wd : World) (HR : ReadsInt wd .u32 A n ps) (HS : ReadsInt wd .u32 B m ls) (hps : ∀ x ∈ ps, 0 ≤ x ∧ x < 4294967296) (hls : ∀ x ∈ ls, 0 ≤ x ∧ x < 4294967296) (h : okU W H n m w = true) (hbB : bitsT m = 0) : Calls Try.prog 13 #[.agg #[.int .i64 W, .int .i64 H, .slice A n c], .slice B m d, .int .i64 w] wd fun e w' =>
    ∃ A2 c2, e = .returned (.tuple #[.agg #[.int .i64 w, .int .i64 H, .slice A2 (w * H) c2], .bool true]) ∧ ReadsInt w' .u32 A2 (w * H) ((List.range (w * H)).map (unpPix W w 0 ps ls)) ∧ Below wd.heap.size wd w' := by
  have hm0 : (m : Int) ≤ 9223372036854775807 := by have := HS.2.1; omega
  have HRR := Lib.hid HR; have HSS := Lib.hid HS; have HPS := Lib.hid hps; have HLS := Lib.hid hls
  clear HR HS hps hls
  obtain ⟨hg, ht, hw1, hw2, hbl⟩ := okU_parts h
  have hmm : 1 ≤ m ∧ m ≤ 256 := by unfold goodT at ht; exact of_decide_eq_true ht
  obtain ⟨hm1, hm2⟩ := hmm
  rw [hbB] at hbl
  have hb3 : (0 : Nat) ≤ 3 := by omega
  have HG := Lib.hid hg; have HBL := Lib.hid hbl
  have HB := Lib.hid hbB
  clear h hg ht hbl hbB
  obtain ⟨f, hf⟩ : ∃ f, unpPix W w 0 ps ls = f := ⟨_, rfl⟩
  have HF := Lib.hid hf
  rw [hf]
  clear hf
  go_enter Try.func13, Try.ntmps13
  go_wp2_with (go_at_call 19; refine (refPack_any _ _).mono ?_; rw [bitsZ_nat, HB.out]; rintro e w' ⟨rfl, rfl⟩)
  have hbb : Below (wd.alloc (.cells #[.int .i64 W, .int .i64 H, .slice A n c] 24)).heap.size (wd.alloc (.cells #[.int .i64 W, .int .i64 H, .slice A n c] 24)) ((wd.alloc (.cells #[.int .i64 W, .int .i64 H, .slice A n c] 24)).alloc (.cells #[.int .i64 0, .int .i64 0, .slice none 0 0] 24)).drew := below_drew ((Below.refl _ _).alloc (Nat.le_refl _) _)
  have hnew : (wd.alloc (.cells #[.int .i64 W, .int .i64 H, .slice A n c] 24)).heap[wd.heap.size]? = some (.cells #[.int .i64 W, .int .i64 H, .slice A n c] 24 (0, 0)) := alloc_new _ _ _
  have q0 := pw_cell_below hbb (show (wd.alloc (.cells #[.int .i64 W, .int .i64 H, .slice A n c] 24)).cell? ⟨wd.heap.size, 0, none⟩ = some (.int .i64 W) by rw [cell_blk hnew]; rfl)
  have q1 := pw_cell_below hbb (show (wd.alloc (.cells #[.int .i64 W, .int .i64 H, .slice A n c] 24)).cell? ⟨wd.heap.size, 1, none⟩ = some (.int .i64 H) by rw [cell_blk hnew]; rfl)
  have q2 := pw_cell_below hbb (show (wd.alloc (.cells #[.int .i64 W, .int .i64 H, .slice A n c] 24)).cell? ⟨wd.heap.size, 2, none⟩ = some (.slice A n c) by rw [cell_blk hnew]; rfl)
  clear hnew
  have hres : ((wd.alloc (.cells #[.int .i64 W, .int .i64 H, .slice A n c] 24)).alloc (.cells #[.int .i64 0, .int .i64 0, .slice none 0 0] 24)).drew.heap[wd.heap.size + 1]? = some (.cells #[.int .i64 0, .int .i64 0, .slice none 0 0] 24 (0, 0)) := by
    have h := alloc_new (wd.alloc (.cells #[.int .i64 W, .int .i64 H, .slice A n c] 24)) #[.int .i64 0, .int .i64 0, .slice none 0 0] 24
    rw [World.size_alloc] at h; exact h
  have HRES := Lib.hid hres
  clear hres
  have d1 : decide ((w : Int) < 1) = false := decide_eq_false (by omega)
  have d2 : decide (16384 < (w : Int)) = false := decide_eq_false (by omega)
  have d3 : decide ((m : Int) < 1) = false := decide_eq_false (by omega)
  have d4 : decide (256 < (m : Int)) = false := decide_eq_false (by omega)
  go_region_held3 (fun w' => w'.cell? ⟨wd.heap.size, 0, none⟩ = some (.int .i64 W) ∧ w'.cell? ⟨wd.heap.size, 1, none⟩ = some (.int .i64 H) ∧ w'.cell? ⟨wd.heap.size, 2, none⟩ = some (.slice A n c)) ((first | exact ⟨q0, q1, q2⟩ | exact ⟨pw_cell_below HBG.out q0, pw_cell_below HBG.out q1, pw_cell_below HBG.out q2⟩ | fail)) ((first
    | (go_at_call 28; refine (refGood_any W H A n c _).mono ?_; rintro e w' ⟨rfl, hB⟩; rw [HG.out]; have HBG := Lib.hid hB; clear hB)
    | (go_at_call 29; refine (refBlocks_any w 0 _ (by omega) (by omega) hb3).mono ?_; rintro e w2' ⟨rfl, rfl⟩; rw [HBL.out])
    | fail))
  have HPX := Lib.hid ((Mods.of_below HBG.out []).blk HRES.out (by simp))
  have p0 := pw_cell_below HBG.out q0; have p1 := pw_cell_below HBG.out q1; have p2 := pw_cell_below HBG.out q2
  have HBW := Lib.hid (show Below wd.heap.size wd w' from below_then (below_drew (((Below.refl _ wd).alloc (Nat.le_refl _) _).alloc (by simp) _)) (by simp [World.drew] <;> omega) HBG.out)
  have hz1 : wd.heap.size + 2 ≤ w'.heap.size := by have := HBG.out.size; simp [World.drew] at this; omega
  have hr := HG.out
  unfold goodI at hr
  obtain ⟨hW1, hW2, hH1, hH2, hnWH⟩ := of_decide_eq_true hr
  have HNW := Lib.hid hnWH
  clear hr hnWH q0 q1 q2 hbb HBG HRES
  obtain ⟨X, hX⟩ : ∃ X, wd.heap.size = X := ⟨_, rfl⟩
  obtain ⟨Z, hZ⟩ : ∃ Z, w'.heap.size = Z := ⟨_, rfl⟩
  have HX := Lib.hid hX; have HZ := Lib.hid hZ
  rw [hX] at p0 p1 p2 hz1
  rw [hZ] at hz1
  have hpx := HPX.out
  rw [hX] at hpx
  have HPX := Lib.hid hpx
  have hbw := HBW.out
  rw [hX] at hbw
  have HBW := Lib.hid hbw
  clear hpx hbw hX hZ
  go_upto_region 7 with fail
  rw [HX.out, HZ.out]
  have hb7 := (Below.refl _ w').alloc (Nat.le_refl _) (.cells #[.int .i64 w, .int .i64 H, .slice none 0 0] 24)
  have hc7 := alloc_new w' #[.int .i64 w, .int .i64 H, .slice none 0 0] 24
  rw [HZ.out] at hb7 hc7
  have HB7 := Lib.hid hb7; have HC7 := Lib.hid hc7
  have hs7 : Z + 1 ≤ (w'.alloc (.cells #[.int .i64 w, .int .i64 H, .slice none 0 0] 24)).heap.size := by have := HZ.out; simp; omega
  clear hb7 hc7
  generalize w'.alloc (.cells #[.int .i64 w, .int .i64 H, .slice none 0 0] 24) = w7 at *
  have hn2 : (n : Int) ≤ 268435456 := by
    have hpW := prod_room (W := W) (H := H) (by omega) (by omega) (by omega) (by omega)
    have := HNW.out; omega
  have hwH : w * H ≤ 268435456 := by
    have hpW := prod_room (W := w) (H := H) (by omega) (by omega) (by omega) (by omega)
    have : ((w * H : Nat) : Int) ≤ 268435456 := by push_cast; omega
    omega
  go_wp2_with fail
  go_loopw [12] (fun yv wr => ∃ (y : Nat) (v : Value), y ≤ H ∧ yv = .int .i64 y ∧ Hid (wr.heap[Z]? = some (.cells #[.int .i64 w, .int .i64 H, v] 24 (0, 0))) ∧ Hid (wr.ownsRow (Z + 1) 31 1 v (y * w) (nums .u32 ((List.range (y * w)).map f))) ∧ Z + 1 ≤ wr.heap.size ∧ Hid (Below Z w' wr)) (fun yv _ => H - (intOf yv).toNat)
  case atStart => exact ⟨0, _, Nat.zero_le _, rfl, HC7.out, by rw [Nat.zero_mul]; exact own_nil _ _ _ _, hs7, HB7.out⟩
  case round =>
    clear HC7 HB7 hs7
    obtain ⟨y, v, hy, rfl, HC, HO, hsz, HBX⟩ := hrel
    have r1 := pw_cell_below (show Below w'.heap.size w' wr by rw [HZ.out]; exact HBX.out) p1
    by_cases hyH : y < H
    · go_wp2_with fail
      clear r1
      go_loopw [13] (fun xv wr => ∃ (x : Nat) (v : Value), x ≤ w ∧ xv = .int .i64 x ∧ Hid (wr.heap[Z]? = some (.cells #[.int .i64 w, .int .i64 H, v] 24 (0, 0))) ∧ Hid (wr.ownsRow (Z + 1) 31 1 v (y * w + x) (nums .u32 ((List.range (y * w + x)).map f))) ∧ Z + 1 ≤ wr.heap.size ∧ Hid (Below Z w' wr)) (fun xv _ => w - (intOf xv).toNat)
      case atStart => exact ⟨0, v, Nat.zero_le _, rfl, HC.out, HO.out, hsz, HBX.out⟩
      case round =>
        clear HC HO hsz HBX
        obtain ⟨x, v, hx, rfl, HC, HO, hsz, HBX⟩ := hrel
        by_cases hxw : x < w
        · have hyl : y * w + x < w * H := by
            have h1 : (y + 1) * w ≤ H * w := Nat.mul_le_mul_right w hyH
            rw [Nat.add_mul, Nat.one_mul, Nat.mul_comm H w] at h1
            omega
          have hVn := blocks_nat (show ((w : Int) + 2 ^ 0 - 1) / 2 ^ 0 = (W : Int) from by have h := HBL.out; unfold blocksI at h; exact h) (by omega)
          obtain ⟨i1, i2, i3⟩ := idx_lt (w := w) (b := 0) (by omega) hVn hyl
          obtain ⟨hqq, hxx⟩ := qm (w := w) (t := y * w + x) rfl hxw
          rw [hqq, hxx] at i3
          rw [hxx] at i2
          have hpw : x / 2 ^ 0 = x / 1 := rfl
          rw [hpw] at i2 i3
          obtain ⟨x2, hx2⟩ : ∃ x2, x / 1 = x2 := ⟨_, rfl⟩
          rw [hx2] at i2 i3
          have hxe : x = x2 := by rw [← hx2]; exact (Nat.div_one x).symm
          subst hxe
          obtain ⟨r, hr⟩ : ∃ r, y * W = r := ⟨_, rfl⟩
          rw [hr] at i3
          obtain ⟨I, hI⟩ : ∃ I, r + x = I := ⟨_, rfl⟩
          rw [hI] at i3
          obtain ⟨t, ht⟩ : ∃ t, y * w + x = t := ⟨_, rfl⟩
          rw [ht] at HO hyl hqq hxx
          have hIn : I < n := by have h := HNW.out; have : (n : Int) = ((W * H : Nat) : Int) := by rw [h]; norm_cast
                                 omega
          have hrI : r ≤ I := by omega
          have e3 : IntKind.i64.wrap ((y : Int) * (W : Int)) = (r : Int) := by rw [show (y : Int) * (W : Int) = ((y * W : Nat) : Int) by norm_cast, hr, IntWalk.i64_in _ (by omega)]
          have e4 : (x : Int) / 1 = (x : Int) := by first | (rw [← hx2]; norm_cast; done) | simp
          have e5 : IntKind.i64.wrap ((r : Int) + (x : Int)) = (I : Int) := by rw [IntWalk.i64_in _ (by omega)]; omega
          have e6 : (0 : Int) ≤ (I : Int) := by omega
          have e7 : (I : Int) < (n : Int) := by omega
          have HBP := Lib.hid (show Below w'.heap.size w' wr by rw [HZ.out]; exact HBX.out)
          have HBT := Lib.hid (show Below wd.heap.size wd wr from by rw [HX.out]; exact below_then HBW.out (by have := HZ.out; omega) HBP.out)
          obtain ⟨ad, ha, hcell⟩ := (HRR.out.below HBT.out).2.2 (by omega)
          subst ha
          have hc := hcell I hIn
          have r0 := pw_cell_below HBP.out p0; have r2 := pw_cell_below HBP.out p2
          obtain ⟨hp0, hp1⟩ : 0 ≤ ps.getD I 0 ∧ ps.getD I 0 < 4294967296 := getD_room HPS.out I
          have HPIX := Lib.hid (show f t = (let n := unpN 0 (ps.getD I 0 / 256 % 256) x; if n < ls.length then ls.getD n.toNat 0 else 0) from by
            rw [← HF.out]; unfold unpPix; rw [hqq, hxx, hpw, hx2, hr, hI])
          generalize hpp : ps.getD I 0 = p at *
          clear hcell hpp i1 i2 i3 hqq hxx hVn hpw
          have HTT := Lib.hid ht
          clear ht
          go_wp2_with fail
          go_quiet ((go_at_call 32; exact Calls.quiet_of_same ((part_any p 2 _ hp0 hp1 (by omega)).mono fun _ _ h => ⟨h.1, h.2.symm⟩)))
          have hgr : 0 ≤ partP p 2 ∧ partP p 2 ≤ 255 := by rw [part2]; omega
          rw [← part2] at HPIX
          generalize partP p 2 = G at *
          obtain ⟨hG0, hG1⟩ := hgr
          have hbq : Below wr.heap.size wr (wr.drewN nq) := ⟨rfl, rfl, rfl, Nat.le_of_eq (by rw [heap_drewN]), fun _ _ => by rw [heap_drewN]⟩
          have HC2 := Lib.hid (show (wr.drewN nq).heap[Z]? = some (.cells #[.int .i64 w, .int .i64 H, v] 24 (0, 0)) from by rw [heap_drewN]; exact HC.out)
          have HO2 := Lib.hid (pw_own_below HO.out hbq)
          have hsz2 : Z + 1 ≤ (wr.drewN nq).heap.size := by rw [heap_drewN]; exact hsz
          have HBX2 := Lib.hid (below_then HBX.out (by omega) hbq)
          have HBT2 := Lib.hid (below_then HBT.out (by have := HBT.out.size; omega) hbq)
          clear HC HO hsz HBX HBT HBP hbq e3 e4 e5 e6 e7 r0 r2 hc hp0 hp1
          generalize wr.drewN nq = wq at *
          obtain ⟨J, hJ⟩ : ∃ J, x % 1 * 8 = J := ⟨_, rfl⟩
          have hJ8 : J ≤ 8 := by omega
          have e10 : (x : Int) % 1 * 8 = (J : Int) := by rw [← hJ]; norm_cast
          have HJ := Lib.hid hJ
          clear hJ
          go_wp2_with fail
          go_loopw [14, 15] (fun gv kv wz => ∃ (k : Nat) (g' : Int), k ≤ J ∧ kv = .int .i64 k ∧ gv = .int .i64 g' ∧ Hid (g' = G / 2 ^ k) ∧ 0 ≤ g' ∧ g' ≤ 255 ∧ wz = wq) (fun _ kv _ => J - (intOf kv).toNat)
          case atStart => exact ⟨0, G, Nat.zero_le _, rfl, rfl, Lib.hid (by simp), hG0, hG1, rfl⟩
          case round =>
            obtain ⟨k, g', hk, rfl, rfl, HGG, hg0, hg1, rfl⟩ := hrel
            by_cases hkJ : k < J
            · exfalso
              have := HJ.out
              omega
            · have : k = J := by omega
              subst this
              obtain ⟨K, hK⟩ : ∃ K : Nat, g' % 256 = K := ⟨(g' % 256).toNat, by omega⟩
              have hK2 : K ≤ 255 := by omega
              have hun : unpN 0 G x = (K : Int) := by
                show G / 2 ^ (x % 1 * 8) % 256 = _
                rw [HJ.out, ← HGG.out, hK]
              rw [hun] at HPIX
              have hK3 : g'.tmod 256 = (K : Int) := by rw [Int.tmod_eq_emod_of_nonneg hg0]; exact hK
              by_cases hKm : K < m
              · have hd : decide ((K : Int) < (m : Int)) = true := by simp; omega
                obtain ⟨bd, hbd, hcb⟩ := (HSS.out.below HBT2.out).2.2 (by omega)
                subst hbd
                have hck := hcb K hKm
                have HPX2 := Lib.hid (show ls.getD K 0 = f t from by
                  rw [HPIX.out, if_pos (by rw [HSS.out.1]; exact_mod_cast hKm)]; rfl)
                clear hcb HPIX
                generalize ls.getD K 0 = z at *
                have cv := (box3 HC2.out).2.2.1
                go_wp2_with (at_builtin; refine print_append_num (w0 := wr) (Z + 1) rfl _ _ 22 31 .u32 4 rfl Try.underlying22 info_u32 (by decide) _ ((List.range t).map f) (z) rfl rfl (by rw [len_fill]; exact HO2.out) (Below.refl _ _) hsz2 (by rw [len_fill]; omega) ?_)
                intro v1 w1 hown hB1 hg hat
                have hc3 := box_grown HC2.out HO2.out hg
                rw [fill_more HPX2.out] at hown
                obtain ⟨g1, c1, rfl, hg1, hg2⟩ := some_own hown (by omega)
                have hc4 := blk_set hc3 2 (.slice (some ⟨g1, 0, none⟩) (t + 1) c1)
                have ho4 := own_store hown hg1 (.slice (some ⟨g1, 0, none⟩) (t + 1) c1)
                have hb4 := ((pw_below_grown HBX2.out _ (by omega) hg (fun r hr => by have := own_rows HO2.out r hr; omega)).setCell (p := ⟨Z, 2, none⟩) (Nat.le_refl _) (.slice (some ⟨g1, 0, none⟩) (t + 1) c1))
                have hs4 : Z + 1 ≤ (w1.setCell ⟨Z, 2, none⟩ (.slice (some ⟨g1, 0, none⟩) (t + 1) c1)).heap.size := by simp [World.setCell]; omega
                obtain ⟨c0, c1', c2, f0, f1, f2⟩ := box3 hc3
                have HC4 := Lib.hid hc4; have HO4 := Lib.hid ho4; have HB4 := Lib.hid hb4
                clear cv hc3 hc4 ho4 hb4 hown hB1 hg hat HC2 HO2 HBX2
                go_wp2_with fail
                go_roundw
                case rel => exact ⟨x + 1, _, by omega, by go_num, HC4.out, by rw [← Nat.add_assoc, HTT.out]; exact HO4.out, hs4, HB4.out⟩
                case measure => simp [intOf]; omega
              · have hd : decide ((K : Int) < (m : Int)) = false := by simp; omega
                have HPX2 := Lib.hid (show (0 : Int) = f t from by
                  rw [HPIX.out, if_neg (by rw [HSS.out.1]; exact_mod_cast hKm)])
                clear HPIX
                have cv := (box3 HC2.out).2.2.1
                go_wp2_with (at_builtin; refine print_append_num (w0 := wr) (Z + 1) rfl _ _ 22 31 .u32 4 rfl Try.underlying22 info_u32 (by decide) _ ((List.range t).map f) 0 rfl rfl (by rw [len_fill]; exact HO2.out) (Below.refl _ _) hsz2 (by rw [len_fill]; omega) ?_)
                intro v1 w1 hown hB1 hg hat
                have hc3 := box_grown HC2.out HO2.out hg
                rw [fill_more HPX2.out] at hown
                obtain ⟨g1, c1, rfl, hg1, hg2⟩ := some_own hown (by omega)
                have hc4 := blk_set hc3 2 (.slice (some ⟨g1, 0, none⟩) (t + 1) c1)
                have ho4 := own_store hown hg1 (.slice (some ⟨g1, 0, none⟩) (t + 1) c1)
                have hb4 := ((pw_below_grown HBX2.out _ (by omega) hg (fun r hr => by have := own_rows HO2.out r hr; omega)).setCell (p := ⟨Z, 2, none⟩) (Nat.le_refl _) (.slice (some ⟨g1, 0, none⟩) (t + 1) c1))
                have hs4 : Z + 1 ≤ (w1.setCell ⟨Z, 2, none⟩ (.slice (some ⟨g1, 0, none⟩) (t + 1) c1)).heap.size := by simp [World.setCell]; omega
                obtain ⟨c0, c1', c2, f0, f1, f2⟩ := box3 hc3
                have HC4 := Lib.hid hc4; have HO4 := Lib.hid ho4; have HB4 := Lib.hid hb4
                clear cv hc3 hc4 ho4 hb4 hown hB1 hg hat HC2 HO2 HBX2
                go_wp2_with fail
                go_roundw
                case rel => exact ⟨x + 1, _, by omega, by go_num, HC4.out, by rw [← Nat.add_assoc, HTT.out]; exact HO4.out, hs4, HB4.out⟩
                case measure => simp [intOf]; omega
        · have : x = w := by omega
          subst this
          go_wp2_with fail
          go_roundw
          case rel => exact ⟨y + 1, v, by omega, by go_num, HC.out, by rw [Nat.add_mul, Nat.one_mul]; exact HO.out, hsz, HBX.out⟩
          case measure => simp [intOf]; omega
    · have : y = H := by omega
      subst this
      obtain ⟨A2, c3, rfl, hr2⟩ := own_reads HO.out
      have HR2 := Lib.hid hr2
      clear hr2
      obtain ⟨c0, c1, c2, f0, f1, f2⟩ := box3 HC.out
      have hBZ : Below X wd wr := below_then HBW.out (by have := HZ.out; omega) (by rw [HZ.out]; exact HBX.out)
      have HPX2 := Lib.hid ((Mods.of_below (show Below w'.heap.size w' wr by rw [HZ.out]; exact HBX.out) []).blk HPX.out (by simp))
      have HBB := Lib.hid hBZ
      clear hBZ
      obtain ⟨u0, u1, u2, g0, g1, g2⟩ := box3 HPX2.out
      go_wp2_with fail
      refine bodyPost_ret (results_box rfl _ _ _ _ _ _ _ rfl (blk_set3 HPX2.out _ _ _) Try.underlying24 rfl size_image) rfl ?_
      refine ⟨A2, c3, ?_, ?_, by rw [HX.out]; exact below_box HBB.out (by omega) _ _ _⟩
      · rw [Nat.mul_comm w]; rfl
      · rw [Nat.mul_comm w]
        refine ReadsInt.mods HR2.out (mods_box _ _ _ _ _) ?_
        intro a ha
        subst ha
        have h1 := own_rows HO.out a.block (by simp [Value.ownBlock])
        simp; omega
end Go.Proofs.Ytmgkdlkjcncniaa

/- The reference's Unpacked where two to the 1 pixels are one. (Printed by genun.py.) -/
namespace Go.Proofs.Ytmgkdlkjcncniaa
open Go.RowKit
open Go.Proofs.YtmgkdlkjcncniaaW.PrintWords
set_option maxRecDepth 100000 in
set_option maxHeartbeats 4000000 in
theorem refUnpacked_b1 (W H w : Nat) (A B : Option Addr) (n c m d : Nat) (ps ls : List Int) (wd : World) (HR : ReadsInt wd .u32 A n ps) (HS : ReadsInt wd .u32 B m ls) (hps : ∀ x ∈ ps, 0 ≤ x ∧ x < 4294967296) (hls : ∀ x ∈ ls, 0 ≤ x ∧ x < 4294967296) (h : okU W H n m w = true) (hbB : bitsT m = 1) : Calls Try.prog 13 #[.agg #[.int .i64 W, .int .i64 H, .slice A n c], .slice B m d, .int .i64 w] wd fun e w' =>
    ∃ A2 c2, e = .returned (.tuple #[.agg #[.int .i64 w, .int .i64 H, .slice A2 (w * H) c2], .bool true]) ∧ ReadsInt w' .u32 A2 (w * H) ((List.range (w * H)).map (unpPix W w 1 ps ls)) ∧ Below wd.heap.size wd w' := by
  have hm0 : (m : Int) ≤ 9223372036854775807 := by have := HS.2.1; omega
  have HRR := Lib.hid HR; have HSS := Lib.hid HS; have HPS := Lib.hid hps; have HLS := Lib.hid hls
  clear HR HS hps hls
  obtain ⟨hg, ht, hw1, hw2, hbl⟩ := okU_parts h
  have hmm : 1 ≤ m ∧ m ≤ 256 := by unfold goodT at ht; exact of_decide_eq_true ht
  obtain ⟨hm1, hm2⟩ := hmm
  rw [hbB] at hbl
  have hb3 : (1 : Nat) ≤ 3 := by omega
  have HG := Lib.hid hg; have HBL := Lib.hid hbl
  have HB := Lib.hid hbB
  clear h hg ht hbl hbB
  obtain ⟨f, hf⟩ : ∃ f, unpPix W w 1 ps ls = f := ⟨_, rfl⟩
  have HF := Lib.hid hf
  rw [hf]
  clear hf
  go_enter Try.func13, Try.ntmps13
  go_wp2_with (go_at_call 19; refine (refPack_any _ _).mono ?_; rw [bitsZ_nat, HB.out]; rintro e w' ⟨rfl, rfl⟩)
  have hbb : Below (wd.alloc (.cells #[.int .i64 W, .int .i64 H, .slice A n c] 24)).heap.size (wd.alloc (.cells #[.int .i64 W, .int .i64 H, .slice A n c] 24)) ((wd.alloc (.cells #[.int .i64 W, .int .i64 H, .slice A n c] 24)).alloc (.cells #[.int .i64 0, .int .i64 0, .slice none 0 0] 24)).drew := below_drew ((Below.refl _ _).alloc (Nat.le_refl _) _)
  have hnew : (wd.alloc (.cells #[.int .i64 W, .int .i64 H, .slice A n c] 24)).heap[wd.heap.size]? = some (.cells #[.int .i64 W, .int .i64 H, .slice A n c] 24 (0, 0)) := alloc_new _ _ _
  have q0 := pw_cell_below hbb (show (wd.alloc (.cells #[.int .i64 W, .int .i64 H, .slice A n c] 24)).cell? ⟨wd.heap.size, 0, none⟩ = some (.int .i64 W) by rw [cell_blk hnew]; rfl)
  have q1 := pw_cell_below hbb (show (wd.alloc (.cells #[.int .i64 W, .int .i64 H, .slice A n c] 24)).cell? ⟨wd.heap.size, 1, none⟩ = some (.int .i64 H) by rw [cell_blk hnew]; rfl)
  have q2 := pw_cell_below hbb (show (wd.alloc (.cells #[.int .i64 W, .int .i64 H, .slice A n c] 24)).cell? ⟨wd.heap.size, 2, none⟩ = some (.slice A n c) by rw [cell_blk hnew]; rfl)
  clear hnew
  have hres : ((wd.alloc (.cells #[.int .i64 W, .int .i64 H, .slice A n c] 24)).alloc (.cells #[.int .i64 0, .int .i64 0, .slice none 0 0] 24)).drew.heap[wd.heap.size + 1]? = some (.cells #[.int .i64 0, .int .i64 0, .slice none 0 0] 24 (0, 0)) := by
    have h := alloc_new (wd.alloc (.cells #[.int .i64 W, .int .i64 H, .slice A n c] 24)) #[.int .i64 0, .int .i64 0, .slice none 0 0] 24
    rw [World.size_alloc] at h; exact h
  have HRES := Lib.hid hres
  clear hres
  have d1 : decide ((w : Int) < 1) = false := decide_eq_false (by omega)
  have d2 : decide (16384 < (w : Int)) = false := decide_eq_false (by omega)
  have d3 : decide ((m : Int) < 1) = false := decide_eq_false (by omega)
  have d4 : decide (256 < (m : Int)) = false := decide_eq_false (by omega)
  go_region_held3 (fun w' => w'.cell? ⟨wd.heap.size, 0, none⟩ = some (.int .i64 W) ∧ w'.cell? ⟨wd.heap.size, 1, none⟩ = some (.int .i64 H) ∧ w'.cell? ⟨wd.heap.size, 2, none⟩ = some (.slice A n c)) ((first | exact ⟨q0, q1, q2⟩ | exact ⟨pw_cell_below HBG.out q0, pw_cell_below HBG.out q1, pw_cell_below HBG.out q2⟩ | fail)) ((first
    | (go_at_call 28; refine (refGood_any W H A n c _).mono ?_; rintro e w' ⟨rfl, hB⟩; rw [HG.out]; have HBG := Lib.hid hB; clear hB)
    | (go_at_call 29; refine (refBlocks_any w 1 _ (by omega) (by omega) hb3).mono ?_; rintro e w2' ⟨rfl, rfl⟩; rw [HBL.out])
    | fail))
  have HPX := Lib.hid ((Mods.of_below HBG.out []).blk HRES.out (by simp))
  have p0 := pw_cell_below HBG.out q0; have p1 := pw_cell_below HBG.out q1; have p2 := pw_cell_below HBG.out q2
  have HBW := Lib.hid (show Below wd.heap.size wd w' from below_then (below_drew (((Below.refl _ wd).alloc (Nat.le_refl _) _).alloc (by simp) _)) (by simp [World.drew] <;> omega) HBG.out)
  have hz1 : wd.heap.size + 2 ≤ w'.heap.size := by have := HBG.out.size; simp [World.drew] at this; omega
  have hr := HG.out
  unfold goodI at hr
  obtain ⟨hW1, hW2, hH1, hH2, hnWH⟩ := of_decide_eq_true hr
  have HNW := Lib.hid hnWH
  clear hr hnWH q0 q1 q2 hbb HBG HRES
  obtain ⟨X, hX⟩ : ∃ X, wd.heap.size = X := ⟨_, rfl⟩
  obtain ⟨Z, hZ⟩ : ∃ Z, w'.heap.size = Z := ⟨_, rfl⟩
  have HX := Lib.hid hX; have HZ := Lib.hid hZ
  rw [hX] at p0 p1 p2 hz1
  rw [hZ] at hz1
  have hpx := HPX.out
  rw [hX] at hpx
  have HPX := Lib.hid hpx
  have hbw := HBW.out
  rw [hX] at hbw
  have HBW := Lib.hid hbw
  clear hpx hbw hX hZ
  go_upto_region 7 with fail
  rw [HX.out, HZ.out]
  have hb7 := (Below.refl _ w').alloc (Nat.le_refl _) (.cells #[.int .i64 w, .int .i64 H, .slice none 0 0] 24)
  have hc7 := alloc_new w' #[.int .i64 w, .int .i64 H, .slice none 0 0] 24
  rw [HZ.out] at hb7 hc7
  have HB7 := Lib.hid hb7; have HC7 := Lib.hid hc7
  have hs7 : Z + 1 ≤ (w'.alloc (.cells #[.int .i64 w, .int .i64 H, .slice none 0 0] 24)).heap.size := by have := HZ.out; simp; omega
  clear hb7 hc7
  generalize w'.alloc (.cells #[.int .i64 w, .int .i64 H, .slice none 0 0] 24) = w7 at *
  have hn2 : (n : Int) ≤ 268435456 := by
    have hpW := prod_room (W := W) (H := H) (by omega) (by omega) (by omega) (by omega)
    have := HNW.out; omega
  have hwH : w * H ≤ 268435456 := by
    have hpW := prod_room (W := w) (H := H) (by omega) (by omega) (by omega) (by omega)
    have : ((w * H : Nat) : Int) ≤ 268435456 := by push_cast; omega
    omega
  go_wp2_with fail
  go_loopw [12] (fun yv wr => ∃ (y : Nat) (v : Value), y ≤ H ∧ yv = .int .i64 y ∧ Hid (wr.heap[Z]? = some (.cells #[.int .i64 w, .int .i64 H, v] 24 (0, 0))) ∧ Hid (wr.ownsRow (Z + 1) 31 1 v (y * w) (nums .u32 ((List.range (y * w)).map f))) ∧ Z + 1 ≤ wr.heap.size ∧ Hid (Below Z w' wr)) (fun yv _ => H - (intOf yv).toNat)
  case atStart => exact ⟨0, _, Nat.zero_le _, rfl, HC7.out, by rw [Nat.zero_mul]; exact own_nil _ _ _ _, hs7, HB7.out⟩
  case round =>
    clear HC7 HB7 hs7
    obtain ⟨y, v, hy, rfl, HC, HO, hsz, HBX⟩ := hrel
    have r1 := pw_cell_below (show Below w'.heap.size w' wr by rw [HZ.out]; exact HBX.out) p1
    by_cases hyH : y < H
    · go_wp2_with fail
      clear r1
      go_loopw [13] (fun xv wr => ∃ (x : Nat) (v : Value), x ≤ w ∧ xv = .int .i64 x ∧ Hid (wr.heap[Z]? = some (.cells #[.int .i64 w, .int .i64 H, v] 24 (0, 0))) ∧ Hid (wr.ownsRow (Z + 1) 31 1 v (y * w + x) (nums .u32 ((List.range (y * w + x)).map f))) ∧ Z + 1 ≤ wr.heap.size ∧ Hid (Below Z w' wr)) (fun xv _ => w - (intOf xv).toNat)
      case atStart => exact ⟨0, v, Nat.zero_le _, rfl, HC.out, HO.out, hsz, HBX.out⟩
      case round =>
        clear HC HO hsz HBX
        obtain ⟨x, v, hx, rfl, HC, HO, hsz, HBX⟩ := hrel
        by_cases hxw : x < w
        · have hyl : y * w + x < w * H := by
            have h1 : (y + 1) * w ≤ H * w := Nat.mul_le_mul_right w hyH
            rw [Nat.add_mul, Nat.one_mul, Nat.mul_comm H w] at h1
            omega
          have hVn := blocks_nat (show ((w : Int) + 2 ^ 1 - 1) / 2 ^ 1 = (W : Int) from by have h := HBL.out; unfold blocksI at h; exact h) (by omega)
          obtain ⟨i1, i2, i3⟩ := idx_lt (w := w) (b := 1) (by omega) hVn hyl
          obtain ⟨hqq, hxx⟩ := qm (w := w) (t := y * w + x) rfl hxw
          rw [hqq, hxx] at i3
          rw [hxx] at i2
          have hpw : x / 2 ^ 1 = x / 2 := rfl
          rw [hpw] at i2 i3
          obtain ⟨x2, hx2⟩ : ∃ x2, x / 2 = x2 := ⟨_, rfl⟩
          rw [hx2] at i2 i3
          obtain ⟨r, hr⟩ : ∃ r, y * W = r := ⟨_, rfl⟩
          rw [hr] at i3
          obtain ⟨I, hI⟩ : ∃ I, r + x2 = I := ⟨_, rfl⟩
          rw [hI] at i3
          obtain ⟨t, ht⟩ : ∃ t, y * w + x = t := ⟨_, rfl⟩
          rw [ht] at HO hyl hqq hxx
          have hIn : I < n := by have h := HNW.out; have : (n : Int) = ((W * H : Nat) : Int) := by rw [h]; norm_cast
                                 omega
          have hrI : r ≤ I := by omega
          have e3 : IntKind.i64.wrap ((y : Int) * (W : Int)) = (r : Int) := by rw [show (y : Int) * (W : Int) = ((y * W : Nat) : Int) by norm_cast, hr, IntWalk.i64_in _ (by omega)]
          have e4 : (x : Int) / 2 = (x2 : Int) := by first | (rw [← hx2]; norm_cast; done) | simp
          have e5 : IntKind.i64.wrap ((r : Int) + (x2 : Int)) = (I : Int) := by rw [IntWalk.i64_in _ (by omega)]; omega
          have e6 : (0 : Int) ≤ (I : Int) := by omega
          have e7 : (I : Int) < (n : Int) := by omega
          have HBP := Lib.hid (show Below w'.heap.size w' wr by rw [HZ.out]; exact HBX.out)
          have HBT := Lib.hid (show Below wd.heap.size wd wr from by rw [HX.out]; exact below_then HBW.out (by have := HZ.out; omega) HBP.out)
          obtain ⟨ad, ha, hcell⟩ := (HRR.out.below HBT.out).2.2 (by omega)
          subst ha
          have hc := hcell I hIn
          have r0 := pw_cell_below HBP.out p0; have r2 := pw_cell_below HBP.out p2
          obtain ⟨hp0, hp1⟩ : 0 ≤ ps.getD I 0 ∧ ps.getD I 0 < 4294967296 := getD_room HPS.out I
          have HPIX := Lib.hid (show f t = (let n := unpN 1 (ps.getD I 0 / 256 % 256) x; if n < ls.length then ls.getD n.toNat 0 else 0) from by
            rw [← HF.out]; unfold unpPix; rw [hqq, hxx, hpw, hx2, hr, hI])
          generalize hpp : ps.getD I 0 = p at *
          clear hcell hpp i1 i2 i3 hqq hxx hVn hpw
          have HTT := Lib.hid ht
          clear ht
          go_wp2_with fail
          go_quiet ((go_at_call 32; exact Calls.quiet_of_same ((part_any p 2 _ hp0 hp1 (by omega)).mono fun _ _ h => ⟨h.1, h.2.symm⟩)))
          have hgr : 0 ≤ partP p 2 ∧ partP p 2 ≤ 255 := by rw [part2]; omega
          rw [← part2] at HPIX
          generalize partP p 2 = G at *
          obtain ⟨hG0, hG1⟩ := hgr
          have hbq : Below wr.heap.size wr (wr.drewN nq) := ⟨rfl, rfl, rfl, Nat.le_of_eq (by rw [heap_drewN]), fun _ _ => by rw [heap_drewN]⟩
          have HC2 := Lib.hid (show (wr.drewN nq).heap[Z]? = some (.cells #[.int .i64 w, .int .i64 H, v] 24 (0, 0)) from by rw [heap_drewN]; exact HC.out)
          have HO2 := Lib.hid (pw_own_below HO.out hbq)
          have hsz2 : Z + 1 ≤ (wr.drewN nq).heap.size := by rw [heap_drewN]; exact hsz
          have HBX2 := Lib.hid (below_then HBX.out (by omega) hbq)
          have HBT2 := Lib.hid (below_then HBT.out (by have := HBT.out.size; omega) hbq)
          clear HC HO hsz HBX HBT HBP hbq e3 e4 e5 e6 e7 r0 r2 hc hp0 hp1
          generalize wr.drewN nq = wq at *
          obtain ⟨J, hJ⟩ : ∃ J, x % 2 * 4 = J := ⟨_, rfl⟩
          have hJ8 : J ≤ 8 := by omega
          have e10 : (x : Int) % 2 * 4 = (J : Int) := by rw [← hJ]; norm_cast
          have HJ := Lib.hid hJ
          clear hJ
          go_wp2_with fail
          go_loopw [14, 15] (fun gv kv wz => ∃ (k : Nat) (g' : Int), k ≤ J ∧ kv = .int .i64 k ∧ gv = .int .i64 g' ∧ Hid (g' = G / 2 ^ k) ∧ 0 ≤ g' ∧ g' ≤ 255 ∧ wz = wq) (fun _ kv _ => J - (intOf kv).toNat)
          case atStart => exact ⟨0, G, Nat.zero_le _, rfl, rfl, Lib.hid (by simp), hG0, hG1, rfl⟩
          case round =>
            obtain ⟨k, g', hk, rfl, rfl, HGG, hg0, hg1, rfl⟩ := hrel
            by_cases hkJ : k < J
            · go_wp2_with fail
              go_roundw
              case rel => exact ⟨k + 1, g' / 2, by omega, by go_num, by go_num, Lib.hid (by rw [HGG.out, half_step]), by omega, by omega, by first | rfl | trivial⟩
              case measure => simp [intOf]; omega
            · have : k = J := by omega
              subst this
              obtain ⟨K, hK⟩ : ∃ K : Nat, g' % 16 = K := ⟨(g' % 16).toNat, by omega⟩
              have hK2 : K ≤ 255 := by omega
              have hun : unpN 1 G x = (K : Int) := by
                show G / 2 ^ (x % 2 * 4) % 16 = _
                rw [HJ.out, ← HGG.out, hK]
              rw [hun] at HPIX
              have hK3 : g'.tmod 16 = (K : Int) := by rw [Int.tmod_eq_emod_of_nonneg hg0]; exact hK
              by_cases hKm : K < m
              · have hd : decide ((K : Int) < (m : Int)) = true := by simp; omega
                obtain ⟨bd, hbd, hcb⟩ := (HSS.out.below HBT2.out).2.2 (by omega)
                subst hbd
                have hck := hcb K hKm
                have HPX2 := Lib.hid (show ls.getD K 0 = f t from by
                  rw [HPIX.out, if_pos (by rw [HSS.out.1]; exact_mod_cast hKm)]; rfl)
                clear hcb HPIX
                generalize ls.getD K 0 = z at *
                have cv := (box3 HC2.out).2.2.1
                go_wp2_with (at_builtin; refine print_append_num (w0 := wr) (Z + 1) rfl _ _ 22 31 .u32 4 rfl Try.underlying22 info_u32 (by decide) _ ((List.range t).map f) (z) rfl rfl (by rw [len_fill]; exact HO2.out) (Below.refl _ _) hsz2 (by rw [len_fill]; omega) ?_)
                intro v1 w1 hown hB1 hg hat
                have hc3 := box_grown HC2.out HO2.out hg
                rw [fill_more HPX2.out] at hown
                obtain ⟨g1, c1, rfl, hg1, hg2⟩ := some_own hown (by omega)
                have hc4 := blk_set hc3 2 (.slice (some ⟨g1, 0, none⟩) (t + 1) c1)
                have ho4 := own_store hown hg1 (.slice (some ⟨g1, 0, none⟩) (t + 1) c1)
                have hb4 := ((pw_below_grown HBX2.out _ (by omega) hg (fun r hr => by have := own_rows HO2.out r hr; omega)).setCell (p := ⟨Z, 2, none⟩) (Nat.le_refl _) (.slice (some ⟨g1, 0, none⟩) (t + 1) c1))
                have hs4 : Z + 1 ≤ (w1.setCell ⟨Z, 2, none⟩ (.slice (some ⟨g1, 0, none⟩) (t + 1) c1)).heap.size := by simp [World.setCell]; omega
                obtain ⟨c0, c1', c2, f0, f1, f2⟩ := box3 hc3
                have HC4 := Lib.hid hc4; have HO4 := Lib.hid ho4; have HB4 := Lib.hid hb4
                clear cv hc3 hc4 ho4 hb4 hown hB1 hg hat HC2 HO2 HBX2
                go_wp2_with fail
                go_roundw
                case rel => exact ⟨x + 1, _, by omega, by go_num, HC4.out, by rw [← Nat.add_assoc, HTT.out]; exact HO4.out, hs4, HB4.out⟩
                case measure => simp [intOf]; omega
              · have hd : decide ((K : Int) < (m : Int)) = false := by simp; omega
                have HPX2 := Lib.hid (show (0 : Int) = f t from by
                  rw [HPIX.out, if_neg (by rw [HSS.out.1]; exact_mod_cast hKm)])
                clear HPIX
                have cv := (box3 HC2.out).2.2.1
                go_wp2_with (at_builtin; refine print_append_num (w0 := wr) (Z + 1) rfl _ _ 22 31 .u32 4 rfl Try.underlying22 info_u32 (by decide) _ ((List.range t).map f) 0 rfl rfl (by rw [len_fill]; exact HO2.out) (Below.refl _ _) hsz2 (by rw [len_fill]; omega) ?_)
                intro v1 w1 hown hB1 hg hat
                have hc3 := box_grown HC2.out HO2.out hg
                rw [fill_more HPX2.out] at hown
                obtain ⟨g1, c1, rfl, hg1, hg2⟩ := some_own hown (by omega)
                have hc4 := blk_set hc3 2 (.slice (some ⟨g1, 0, none⟩) (t + 1) c1)
                have ho4 := own_store hown hg1 (.slice (some ⟨g1, 0, none⟩) (t + 1) c1)
                have hb4 := ((pw_below_grown HBX2.out _ (by omega) hg (fun r hr => by have := own_rows HO2.out r hr; omega)).setCell (p := ⟨Z, 2, none⟩) (Nat.le_refl _) (.slice (some ⟨g1, 0, none⟩) (t + 1) c1))
                have hs4 : Z + 1 ≤ (w1.setCell ⟨Z, 2, none⟩ (.slice (some ⟨g1, 0, none⟩) (t + 1) c1)).heap.size := by simp [World.setCell]; omega
                obtain ⟨c0, c1', c2, f0, f1, f2⟩ := box3 hc3
                have HC4 := Lib.hid hc4; have HO4 := Lib.hid ho4; have HB4 := Lib.hid hb4
                clear cv hc3 hc4 ho4 hb4 hown hB1 hg hat HC2 HO2 HBX2
                go_wp2_with fail
                go_roundw
                case rel => exact ⟨x + 1, _, by omega, by go_num, HC4.out, by rw [← Nat.add_assoc, HTT.out]; exact HO4.out, hs4, HB4.out⟩
                case measure => simp [intOf]; omega
        · have : x = w := by omega
          subst this
          go_wp2_with fail
          go_roundw
          case rel => exact ⟨y + 1, v, by omega, by go_num, HC.out, by rw [Nat.add_mul, Nat.one_mul]; exact HO.out, hsz, HBX.out⟩
          case measure => simp [intOf]; omega
    · have : y = H := by omega
      subst this
      obtain ⟨A2, c3, rfl, hr2⟩ := own_reads HO.out
      have HR2 := Lib.hid hr2
      clear hr2
      obtain ⟨c0, c1, c2, f0, f1, f2⟩ := box3 HC.out
      have hBZ : Below X wd wr := below_then HBW.out (by have := HZ.out; omega) (by rw [HZ.out]; exact HBX.out)
      have HPX2 := Lib.hid ((Mods.of_below (show Below w'.heap.size w' wr by rw [HZ.out]; exact HBX.out) []).blk HPX.out (by simp))
      have HBB := Lib.hid hBZ
      clear hBZ
      obtain ⟨u0, u1, u2, g0, g1, g2⟩ := box3 HPX2.out
      go_wp2_with fail
      refine bodyPost_ret (results_box rfl _ _ _ _ _ _ _ rfl (blk_set3 HPX2.out _ _ _) Try.underlying24 rfl size_image) rfl ?_
      refine ⟨A2, c3, ?_, ?_, by rw [HX.out]; exact below_box HBB.out (by omega) _ _ _⟩
      · rw [Nat.mul_comm w]; rfl
      · rw [Nat.mul_comm w]
        refine ReadsInt.mods HR2.out (mods_box _ _ _ _ _) ?_
        intro a ha
        subst ha
        have h1 := own_rows HO.out a.block (by simp [Value.ownBlock])
        simp; omega
end Go.Proofs.Ytmgkdlkjcncniaa

/- The reference's Unpacked where two to the 2 pixels are one. (Printed by genun.py.) -/
namespace Go.Proofs.Ytmgkdlkjcncniaa
open Go.RowKit
open Go.Proofs.YtmgkdlkjcncniaaW.PrintWords
set_option maxRecDepth 100000 in
set_option maxHeartbeats 4000000 in
theorem refUnpacked_b2 (W H w : Nat) (A B : Option Addr) (n c m d : Nat) (ps ls : List Int) (wd : World) (HR : ReadsInt wd .u32 A n ps) (HS : ReadsInt wd .u32 B m ls) (hps : ∀ x ∈ ps, 0 ≤ x ∧ x < 4294967296) (hls : ∀ x ∈ ls, 0 ≤ x ∧ x < 4294967296) (h : okU W H n m w = true) (hbB : bitsT m = 2) : Calls Try.prog 13 #[.agg #[.int .i64 W, .int .i64 H, .slice A n c], .slice B m d, .int .i64 w] wd fun e w' =>
    ∃ A2 c2, e = .returned (.tuple #[.agg #[.int .i64 w, .int .i64 H, .slice A2 (w * H) c2], .bool true]) ∧ ReadsInt w' .u32 A2 (w * H) ((List.range (w * H)).map (unpPix W w 2 ps ls)) ∧ Below wd.heap.size wd w' := by
  have hm0 : (m : Int) ≤ 9223372036854775807 := by have := HS.2.1; omega
  have HRR := Lib.hid HR; have HSS := Lib.hid HS; have HPS := Lib.hid hps; have HLS := Lib.hid hls
  clear HR HS hps hls
  obtain ⟨hg, ht, hw1, hw2, hbl⟩ := okU_parts h
  have hmm : 1 ≤ m ∧ m ≤ 256 := by unfold goodT at ht; exact of_decide_eq_true ht
  obtain ⟨hm1, hm2⟩ := hmm
  rw [hbB] at hbl
  have hb3 : (2 : Nat) ≤ 3 := by omega
  have HG := Lib.hid hg; have HBL := Lib.hid hbl
  have HB := Lib.hid hbB
  clear h hg ht hbl hbB
  obtain ⟨f, hf⟩ : ∃ f, unpPix W w 2 ps ls = f := ⟨_, rfl⟩
  have HF := Lib.hid hf
  rw [hf]
  clear hf
  go_enter Try.func13, Try.ntmps13
  go_wp2_with (go_at_call 19; refine (refPack_any _ _).mono ?_; rw [bitsZ_nat, HB.out]; rintro e w' ⟨rfl, rfl⟩)
  have hbb : Below (wd.alloc (.cells #[.int .i64 W, .int .i64 H, .slice A n c] 24)).heap.size (wd.alloc (.cells #[.int .i64 W, .int .i64 H, .slice A n c] 24)) ((wd.alloc (.cells #[.int .i64 W, .int .i64 H, .slice A n c] 24)).alloc (.cells #[.int .i64 0, .int .i64 0, .slice none 0 0] 24)).drew := below_drew ((Below.refl _ _).alloc (Nat.le_refl _) _)
  have hnew : (wd.alloc (.cells #[.int .i64 W, .int .i64 H, .slice A n c] 24)).heap[wd.heap.size]? = some (.cells #[.int .i64 W, .int .i64 H, .slice A n c] 24 (0, 0)) := alloc_new _ _ _
  have q0 := pw_cell_below hbb (show (wd.alloc (.cells #[.int .i64 W, .int .i64 H, .slice A n c] 24)).cell? ⟨wd.heap.size, 0, none⟩ = some (.int .i64 W) by rw [cell_blk hnew]; rfl)
  have q1 := pw_cell_below hbb (show (wd.alloc (.cells #[.int .i64 W, .int .i64 H, .slice A n c] 24)).cell? ⟨wd.heap.size, 1, none⟩ = some (.int .i64 H) by rw [cell_blk hnew]; rfl)
  have q2 := pw_cell_below hbb (show (wd.alloc (.cells #[.int .i64 W, .int .i64 H, .slice A n c] 24)).cell? ⟨wd.heap.size, 2, none⟩ = some (.slice A n c) by rw [cell_blk hnew]; rfl)
  clear hnew
  have hres : ((wd.alloc (.cells #[.int .i64 W, .int .i64 H, .slice A n c] 24)).alloc (.cells #[.int .i64 0, .int .i64 0, .slice none 0 0] 24)).drew.heap[wd.heap.size + 1]? = some (.cells #[.int .i64 0, .int .i64 0, .slice none 0 0] 24 (0, 0)) := by
    have h := alloc_new (wd.alloc (.cells #[.int .i64 W, .int .i64 H, .slice A n c] 24)) #[.int .i64 0, .int .i64 0, .slice none 0 0] 24
    rw [World.size_alloc] at h; exact h
  have HRES := Lib.hid hres
  clear hres
  have d1 : decide ((w : Int) < 1) = false := decide_eq_false (by omega)
  have d2 : decide (16384 < (w : Int)) = false := decide_eq_false (by omega)
  have d3 : decide ((m : Int) < 1) = false := decide_eq_false (by omega)
  have d4 : decide (256 < (m : Int)) = false := decide_eq_false (by omega)
  go_region_held3 (fun w' => w'.cell? ⟨wd.heap.size, 0, none⟩ = some (.int .i64 W) ∧ w'.cell? ⟨wd.heap.size, 1, none⟩ = some (.int .i64 H) ∧ w'.cell? ⟨wd.heap.size, 2, none⟩ = some (.slice A n c)) ((first | exact ⟨q0, q1, q2⟩ | exact ⟨pw_cell_below HBG.out q0, pw_cell_below HBG.out q1, pw_cell_below HBG.out q2⟩ | fail)) ((first
    | (go_at_call 28; refine (refGood_any W H A n c _).mono ?_; rintro e w' ⟨rfl, hB⟩; rw [HG.out]; have HBG := Lib.hid hB; clear hB)
    | (go_at_call 29; refine (refBlocks_any w 2 _ (by omega) (by omega) hb3).mono ?_; rintro e w2' ⟨rfl, rfl⟩; rw [HBL.out])
    | fail))
  have HPX := Lib.hid ((Mods.of_below HBG.out []).blk HRES.out (by simp))
  have p0 := pw_cell_below HBG.out q0; have p1 := pw_cell_below HBG.out q1; have p2 := pw_cell_below HBG.out q2
  have HBW := Lib.hid (show Below wd.heap.size wd w' from below_then (below_drew (((Below.refl _ wd).alloc (Nat.le_refl _) _).alloc (by simp) _)) (by simp [World.drew] <;> omega) HBG.out)
  have hz1 : wd.heap.size + 2 ≤ w'.heap.size := by have := HBG.out.size; simp [World.drew] at this; omega
  have hr := HG.out
  unfold goodI at hr
  obtain ⟨hW1, hW2, hH1, hH2, hnWH⟩ := of_decide_eq_true hr
  have HNW := Lib.hid hnWH
  clear hr hnWH q0 q1 q2 hbb HBG HRES
  obtain ⟨X, hX⟩ : ∃ X, wd.heap.size = X := ⟨_, rfl⟩
  obtain ⟨Z, hZ⟩ : ∃ Z, w'.heap.size = Z := ⟨_, rfl⟩
  have HX := Lib.hid hX; have HZ := Lib.hid hZ
  rw [hX] at p0 p1 p2 hz1
  rw [hZ] at hz1
  have hpx := HPX.out
  rw [hX] at hpx
  have HPX := Lib.hid hpx
  have hbw := HBW.out
  rw [hX] at hbw
  have HBW := Lib.hid hbw
  clear hpx hbw hX hZ
  go_upto_region 7 with fail
  rw [HX.out, HZ.out]
  have hb7 := (Below.refl _ w').alloc (Nat.le_refl _) (.cells #[.int .i64 w, .int .i64 H, .slice none 0 0] 24)
  have hc7 := alloc_new w' #[.int .i64 w, .int .i64 H, .slice none 0 0] 24
  rw [HZ.out] at hb7 hc7
  have HB7 := Lib.hid hb7; have HC7 := Lib.hid hc7
  have hs7 : Z + 1 ≤ (w'.alloc (.cells #[.int .i64 w, .int .i64 H, .slice none 0 0] 24)).heap.size := by have := HZ.out; simp; omega
  clear hb7 hc7
  generalize w'.alloc (.cells #[.int .i64 w, .int .i64 H, .slice none 0 0] 24) = w7 at *
  have hn2 : (n : Int) ≤ 268435456 := by
    have hpW := prod_room (W := W) (H := H) (by omega) (by omega) (by omega) (by omega)
    have := HNW.out; omega
  have hwH : w * H ≤ 268435456 := by
    have hpW := prod_room (W := w) (H := H) (by omega) (by omega) (by omega) (by omega)
    have : ((w * H : Nat) : Int) ≤ 268435456 := by push_cast; omega
    omega
  go_wp2_with fail
  go_loopw [12] (fun yv wr => ∃ (y : Nat) (v : Value), y ≤ H ∧ yv = .int .i64 y ∧ Hid (wr.heap[Z]? = some (.cells #[.int .i64 w, .int .i64 H, v] 24 (0, 0))) ∧ Hid (wr.ownsRow (Z + 1) 31 1 v (y * w) (nums .u32 ((List.range (y * w)).map f))) ∧ Z + 1 ≤ wr.heap.size ∧ Hid (Below Z w' wr)) (fun yv _ => H - (intOf yv).toNat)
  case atStart => exact ⟨0, _, Nat.zero_le _, rfl, HC7.out, by rw [Nat.zero_mul]; exact own_nil _ _ _ _, hs7, HB7.out⟩
  case round =>
    clear HC7 HB7 hs7
    obtain ⟨y, v, hy, rfl, HC, HO, hsz, HBX⟩ := hrel
    have r1 := pw_cell_below (show Below w'.heap.size w' wr by rw [HZ.out]; exact HBX.out) p1
    by_cases hyH : y < H
    · go_wp2_with fail
      clear r1
      go_loopw [13] (fun xv wr => ∃ (x : Nat) (v : Value), x ≤ w ∧ xv = .int .i64 x ∧ Hid (wr.heap[Z]? = some (.cells #[.int .i64 w, .int .i64 H, v] 24 (0, 0))) ∧ Hid (wr.ownsRow (Z + 1) 31 1 v (y * w + x) (nums .u32 ((List.range (y * w + x)).map f))) ∧ Z + 1 ≤ wr.heap.size ∧ Hid (Below Z w' wr)) (fun xv _ => w - (intOf xv).toNat)
      case atStart => exact ⟨0, v, Nat.zero_le _, rfl, HC.out, HO.out, hsz, HBX.out⟩
      case round =>
        clear HC HO hsz HBX
        obtain ⟨x, v, hx, rfl, HC, HO, hsz, HBX⟩ := hrel
        by_cases hxw : x < w
        · have hyl : y * w + x < w * H := by
            have h1 : (y + 1) * w ≤ H * w := Nat.mul_le_mul_right w hyH
            rw [Nat.add_mul, Nat.one_mul, Nat.mul_comm H w] at h1
            omega
          have hVn := blocks_nat (show ((w : Int) + 2 ^ 2 - 1) / 2 ^ 2 = (W : Int) from by have h := HBL.out; unfold blocksI at h; exact h) (by omega)
          obtain ⟨i1, i2, i3⟩ := idx_lt (w := w) (b := 2) (by omega) hVn hyl
          obtain ⟨hqq, hxx⟩ := qm (w := w) (t := y * w + x) rfl hxw
          rw [hqq, hxx] at i3
          rw [hxx] at i2
          have hpw : x / 2 ^ 2 = x / 4 := rfl
          rw [hpw] at i2 i3
          obtain ⟨x2, hx2⟩ : ∃ x2, x / 4 = x2 := ⟨_, rfl⟩
          rw [hx2] at i2 i3
          obtain ⟨r, hr⟩ : ∃ r, y * W = r := ⟨_, rfl⟩
          rw [hr] at i3
          obtain ⟨I, hI⟩ : ∃ I, r + x2 = I := ⟨_, rfl⟩
          rw [hI] at i3
          obtain ⟨t, ht⟩ : ∃ t, y * w + x = t := ⟨_, rfl⟩
          rw [ht] at HO hyl hqq hxx
          have hIn : I < n := by have h := HNW.out; have : (n : Int) = ((W * H : Nat) : Int) := by rw [h]; norm_cast
                                 omega
          have hrI : r ≤ I := by omega
          have e3 : IntKind.i64.wrap ((y : Int) * (W : Int)) = (r : Int) := by rw [show (y : Int) * (W : Int) = ((y * W : Nat) : Int) by norm_cast, hr, IntWalk.i64_in _ (by omega)]
          have e4 : (x : Int) / 4 = (x2 : Int) := by first | (rw [← hx2]; norm_cast; done) | simp
          have e5 : IntKind.i64.wrap ((r : Int) + (x2 : Int)) = (I : Int) := by rw [IntWalk.i64_in _ (by omega)]; omega
          have e6 : (0 : Int) ≤ (I : Int) := by omega
          have e7 : (I : Int) < (n : Int) := by omega
          have HBP := Lib.hid (show Below w'.heap.size w' wr by rw [HZ.out]; exact HBX.out)
          have HBT := Lib.hid (show Below wd.heap.size wd wr from by rw [HX.out]; exact below_then HBW.out (by have := HZ.out; omega) HBP.out)
          obtain ⟨ad, ha, hcell⟩ := (HRR.out.below HBT.out).2.2 (by omega)
          subst ha
          have hc := hcell I hIn
          have r0 := pw_cell_below HBP.out p0; have r2 := pw_cell_below HBP.out p2
          obtain ⟨hp0, hp1⟩ : 0 ≤ ps.getD I 0 ∧ ps.getD I 0 < 4294967296 := getD_room HPS.out I
          have HPIX := Lib.hid (show f t = (let n := unpN 2 (ps.getD I 0 / 256 % 256) x; if n < ls.length then ls.getD n.toNat 0 else 0) from by
            rw [← HF.out]; unfold unpPix; rw [hqq, hxx, hpw, hx2, hr, hI])
          generalize hpp : ps.getD I 0 = p at *
          clear hcell hpp i1 i2 i3 hqq hxx hVn hpw
          have HTT := Lib.hid ht
          clear ht
          go_wp2_with fail
          go_quiet ((go_at_call 32; exact Calls.quiet_of_same ((part_any p 2 _ hp0 hp1 (by omega)).mono fun _ _ h => ⟨h.1, h.2.symm⟩)))
          have hgr : 0 ≤ partP p 2 ∧ partP p 2 ≤ 255 := by rw [part2]; omega
          rw [← part2] at HPIX
          generalize partP p 2 = G at *
          obtain ⟨hG0, hG1⟩ := hgr
          have hbq : Below wr.heap.size wr (wr.drewN nq) := ⟨rfl, rfl, rfl, Nat.le_of_eq (by rw [heap_drewN]), fun _ _ => by rw [heap_drewN]⟩
          have HC2 := Lib.hid (show (wr.drewN nq).heap[Z]? = some (.cells #[.int .i64 w, .int .i64 H, v] 24 (0, 0)) from by rw [heap_drewN]; exact HC.out)
          have HO2 := Lib.hid (pw_own_below HO.out hbq)
          have hsz2 : Z + 1 ≤ (wr.drewN nq).heap.size := by rw [heap_drewN]; exact hsz
          have HBX2 := Lib.hid (below_then HBX.out (by omega) hbq)
          have HBT2 := Lib.hid (below_then HBT.out (by have := HBT.out.size; omega) hbq)
          clear HC HO hsz HBX HBT HBP hbq e3 e4 e5 e6 e7 r0 r2 hc hp0 hp1
          generalize wr.drewN nq = wq at *
          obtain ⟨J, hJ⟩ : ∃ J, x % 4 * 2 = J := ⟨_, rfl⟩
          have hJ8 : J ≤ 8 := by omega
          have e10 : (x : Int) % 4 * 2 = (J : Int) := by rw [← hJ]; norm_cast
          have HJ := Lib.hid hJ
          clear hJ
          go_wp2_with fail
          go_loopw [14, 15] (fun gv kv wz => ∃ (k : Nat) (g' : Int), k ≤ J ∧ kv = .int .i64 k ∧ gv = .int .i64 g' ∧ Hid (g' = G / 2 ^ k) ∧ 0 ≤ g' ∧ g' ≤ 255 ∧ wz = wq) (fun _ kv _ => J - (intOf kv).toNat)
          case atStart => exact ⟨0, G, Nat.zero_le _, rfl, rfl, Lib.hid (by simp), hG0, hG1, rfl⟩
          case round =>
            obtain ⟨k, g', hk, rfl, rfl, HGG, hg0, hg1, rfl⟩ := hrel
            by_cases hkJ : k < J
            · go_wp2_with fail
              go_roundw
              case rel => exact ⟨k + 1, g' / 2, by omega, by go_num, by go_num, Lib.hid (by rw [HGG.out, half_step]), by omega, by omega, by first | rfl | trivial⟩
              case measure => simp [intOf]; omega
            · have : k = J := by omega
              subst this
              obtain ⟨K, hK⟩ : ∃ K : Nat, g' % 4 = K := ⟨(g' % 4).toNat, by omega⟩
              have hK2 : K ≤ 255 := by omega
              have hun : unpN 2 G x = (K : Int) := by
                show G / 2 ^ (x % 4 * 2) % 4 = _
                rw [HJ.out, ← HGG.out, hK]
              rw [hun] at HPIX
              have hK3 : g'.tmod 4 = (K : Int) := by rw [Int.tmod_eq_emod_of_nonneg hg0]; exact hK
              by_cases hKm : K < m
              · have hd : decide ((K : Int) < (m : Int)) = true := by simp; omega
                obtain ⟨bd, hbd, hcb⟩ := (HSS.out.below HBT2.out).2.2 (by omega)
                subst hbd
                have hck := hcb K hKm
                have HPX2 := Lib.hid (show ls.getD K 0 = f t from by
                  rw [HPIX.out, if_pos (by rw [HSS.out.1]; exact_mod_cast hKm)]; rfl)
                clear hcb HPIX
                generalize ls.getD K 0 = z at *
                have cv := (box3 HC2.out).2.2.1
                go_wp2_with (at_builtin; refine print_append_num (w0 := wr) (Z + 1) rfl _ _ 22 31 .u32 4 rfl Try.underlying22 info_u32 (by decide) _ ((List.range t).map f) (z) rfl rfl (by rw [len_fill]; exact HO2.out) (Below.refl _ _) hsz2 (by rw [len_fill]; omega) ?_)
                intro v1 w1 hown hB1 hg hat
                have hc3 := box_grown HC2.out HO2.out hg
                rw [fill_more HPX2.out] at hown
                obtain ⟨g1, c1, rfl, hg1, hg2⟩ := some_own hown (by omega)
                have hc4 := blk_set hc3 2 (.slice (some ⟨g1, 0, none⟩) (t + 1) c1)
                have ho4 := own_store hown hg1 (.slice (some ⟨g1, 0, none⟩) (t + 1) c1)
                have hb4 := ((pw_below_grown HBX2.out _ (by omega) hg (fun r hr => by have := own_rows HO2.out r hr; omega)).setCell (p := ⟨Z, 2, none⟩) (Nat.le_refl _) (.slice (some ⟨g1, 0, none⟩) (t + 1) c1))
                have hs4 : Z + 1 ≤ (w1.setCell ⟨Z, 2, none⟩ (.slice (some ⟨g1, 0, none⟩) (t + 1) c1)).heap.size := by simp [World.setCell]; omega
                obtain ⟨c0, c1', c2, f0, f1, f2⟩ := box3 hc3
                have HC4 := Lib.hid hc4; have HO4 := Lib.hid ho4; have HB4 := Lib.hid hb4
                clear cv hc3 hc4 ho4 hb4 hown hB1 hg hat HC2 HO2 HBX2
                go_wp2_with fail
                go_roundw
                case rel => exact ⟨x + 1, _, by omega, by go_num, HC4.out, by rw [← Nat.add_assoc, HTT.out]; exact HO4.out, hs4, HB4.out⟩
                case measure => simp [intOf]; omega
              · have hd : decide ((K : Int) < (m : Int)) = false := by simp; omega
                have HPX2 := Lib.hid (show (0 : Int) = f t from by
                  rw [HPIX.out, if_neg (by rw [HSS.out.1]; exact_mod_cast hKm)])
                clear HPIX
                have cv := (box3 HC2.out).2.2.1
                go_wp2_with (at_builtin; refine print_append_num (w0 := wr) (Z + 1) rfl _ _ 22 31 .u32 4 rfl Try.underlying22 info_u32 (by decide) _ ((List.range t).map f) 0 rfl rfl (by rw [len_fill]; exact HO2.out) (Below.refl _ _) hsz2 (by rw [len_fill]; omega) ?_)
                intro v1 w1 hown hB1 hg hat
                have hc3 := box_grown HC2.out HO2.out hg
                rw [fill_more HPX2.out] at hown
                obtain ⟨g1, c1, rfl, hg1, hg2⟩ := some_own hown (by omega)
                have hc4 := blk_set hc3 2 (.slice (some ⟨g1, 0, none⟩) (t + 1) c1)
                have ho4 := own_store hown hg1 (.slice (some ⟨g1, 0, none⟩) (t + 1) c1)
                have hb4 := ((pw_below_grown HBX2.out _ (by omega) hg (fun r hr => by have := own_rows HO2.out r hr; omega)).setCell (p := ⟨Z, 2, none⟩) (Nat.le_refl _) (.slice (some ⟨g1, 0, none⟩) (t + 1) c1))
                have hs4 : Z + 1 ≤ (w1.setCell ⟨Z, 2, none⟩ (.slice (some ⟨g1, 0, none⟩) (t + 1) c1)).heap.size := by simp [World.setCell]; omega
                obtain ⟨c0, c1', c2, f0, f1, f2⟩ := box3 hc3
                have HC4 := Lib.hid hc4; have HO4 := Lib.hid ho4; have HB4 := Lib.hid hb4
                clear cv hc3 hc4 ho4 hb4 hown hB1 hg hat HC2 HO2 HBX2
                go_wp2_with fail
                go_roundw
                case rel => exact ⟨x + 1, _, by omega, by go_num, HC4.out, by rw [← Nat.add_assoc, HTT.out]; exact HO4.out, hs4, HB4.out⟩
                case measure => simp [intOf]; omega
        · have : x = w := by omega
          subst this
          go_wp2_with fail
          go_roundw
          case rel => exact ⟨y + 1, v, by omega, by go_num, HC.out, by rw [Nat.add_mul, Nat.one_mul]; exact HO.out, hsz, HBX.out⟩
          case measure => simp [intOf]; omega
    · have : y = H := by omega
      subst this
      obtain ⟨A2, c3, rfl, hr2⟩ := own_reads HO.out
      have HR2 := Lib.hid hr2
      clear hr2
      obtain ⟨c0, c1, c2, f0, f1, f2⟩ := box3 HC.out
      have hBZ : Below X wd wr := below_then HBW.out (by have := HZ.out; omega) (by rw [HZ.out]; exact HBX.out)
      have HPX2 := Lib.hid ((Mods.of_below (show Below w'.heap.size w' wr by rw [HZ.out]; exact HBX.out) []).blk HPX.out (by simp))
      have HBB := Lib.hid hBZ
      clear hBZ
      obtain ⟨u0, u1, u2, g0, g1, g2⟩ := box3 HPX2.out
      go_wp2_with fail
      refine bodyPost_ret (results_box rfl _ _ _ _ _ _ _ rfl (blk_set3 HPX2.out _ _ _) Try.underlying24 rfl size_image) rfl ?_
      refine ⟨A2, c3, ?_, ?_, by rw [HX.out]; exact below_box HBB.out (by omega) _ _ _⟩
      · rw [Nat.mul_comm w]; rfl
      · rw [Nat.mul_comm w]
        refine ReadsInt.mods HR2.out (mods_box _ _ _ _ _) ?_
        intro a ha
        subst ha
        have h1 := own_rows HO.out a.block (by simp [Value.ownBlock])
        simp; omega
end Go.Proofs.Ytmgkdlkjcncniaa

/- The reference's Unpacked where two to the 3 pixels are one. (Printed by genun.py.) -/
namespace Go.Proofs.Ytmgkdlkjcncniaa
open Go.RowKit
open Go.Proofs.YtmgkdlkjcncniaaW.PrintWords
set_option maxRecDepth 100000 in
set_option maxHeartbeats 4000000 in
theorem refUnpacked_b3 (W H w : Nat) (A B : Option Addr) (n c m d : Nat) (ps ls : List Int) (wd : World) (HR : ReadsInt wd .u32 A n ps) (HS : ReadsInt wd .u32 B m ls) (hps : ∀ x ∈ ps, 0 ≤ x ∧ x < 4294967296) (hls : ∀ x ∈ ls, 0 ≤ x ∧ x < 4294967296) (h : okU W H n m w = true) (hbB : bitsT m = 3) : Calls Try.prog 13 #[.agg #[.int .i64 W, .int .i64 H, .slice A n c], .slice B m d, .int .i64 w] wd fun e w' =>
    ∃ A2 c2, e = .returned (.tuple #[.agg #[.int .i64 w, .int .i64 H, .slice A2 (w * H) c2], .bool true]) ∧ ReadsInt w' .u32 A2 (w * H) ((List.range (w * H)).map (unpPix W w 3 ps ls)) ∧ Below wd.heap.size wd w' := by
  have hm0 : (m : Int) ≤ 9223372036854775807 := by have := HS.2.1; omega
  have HRR := Lib.hid HR; have HSS := Lib.hid HS; have HPS := Lib.hid hps; have HLS := Lib.hid hls
  clear HR HS hps hls
  obtain ⟨hg, ht, hw1, hw2, hbl⟩ := okU_parts h
  have hmm : 1 ≤ m ∧ m ≤ 256 := by unfold goodT at ht; exact of_decide_eq_true ht
  obtain ⟨hm1, hm2⟩ := hmm
  rw [hbB] at hbl
  have hb3 : (3 : Nat) ≤ 3 := by omega
  have HG := Lib.hid hg; have HBL := Lib.hid hbl
  have HB := Lib.hid hbB
  clear h hg ht hbl hbB
  obtain ⟨f, hf⟩ : ∃ f, unpPix W w 3 ps ls = f := ⟨_, rfl⟩
  have HF := Lib.hid hf
  rw [hf]
  clear hf
  go_enter Try.func13, Try.ntmps13
  go_wp2_with (go_at_call 19; refine (refPack_any _ _).mono ?_; rw [bitsZ_nat, HB.out]; rintro e w' ⟨rfl, rfl⟩)
  have hbb : Below (wd.alloc (.cells #[.int .i64 W, .int .i64 H, .slice A n c] 24)).heap.size (wd.alloc (.cells #[.int .i64 W, .int .i64 H, .slice A n c] 24)) ((wd.alloc (.cells #[.int .i64 W, .int .i64 H, .slice A n c] 24)).alloc (.cells #[.int .i64 0, .int .i64 0, .slice none 0 0] 24)).drew := below_drew ((Below.refl _ _).alloc (Nat.le_refl _) _)
  have hnew : (wd.alloc (.cells #[.int .i64 W, .int .i64 H, .slice A n c] 24)).heap[wd.heap.size]? = some (.cells #[.int .i64 W, .int .i64 H, .slice A n c] 24 (0, 0)) := alloc_new _ _ _
  have q0 := pw_cell_below hbb (show (wd.alloc (.cells #[.int .i64 W, .int .i64 H, .slice A n c] 24)).cell? ⟨wd.heap.size, 0, none⟩ = some (.int .i64 W) by rw [cell_blk hnew]; rfl)
  have q1 := pw_cell_below hbb (show (wd.alloc (.cells #[.int .i64 W, .int .i64 H, .slice A n c] 24)).cell? ⟨wd.heap.size, 1, none⟩ = some (.int .i64 H) by rw [cell_blk hnew]; rfl)
  have q2 := pw_cell_below hbb (show (wd.alloc (.cells #[.int .i64 W, .int .i64 H, .slice A n c] 24)).cell? ⟨wd.heap.size, 2, none⟩ = some (.slice A n c) by rw [cell_blk hnew]; rfl)
  clear hnew
  have hres : ((wd.alloc (.cells #[.int .i64 W, .int .i64 H, .slice A n c] 24)).alloc (.cells #[.int .i64 0, .int .i64 0, .slice none 0 0] 24)).drew.heap[wd.heap.size + 1]? = some (.cells #[.int .i64 0, .int .i64 0, .slice none 0 0] 24 (0, 0)) := by
    have h := alloc_new (wd.alloc (.cells #[.int .i64 W, .int .i64 H, .slice A n c] 24)) #[.int .i64 0, .int .i64 0, .slice none 0 0] 24
    rw [World.size_alloc] at h; exact h
  have HRES := Lib.hid hres
  clear hres
  have d1 : decide ((w : Int) < 1) = false := decide_eq_false (by omega)
  have d2 : decide (16384 < (w : Int)) = false := decide_eq_false (by omega)
  have d3 : decide ((m : Int) < 1) = false := decide_eq_false (by omega)
  have d4 : decide (256 < (m : Int)) = false := decide_eq_false (by omega)
  go_region_held3 (fun w' => w'.cell? ⟨wd.heap.size, 0, none⟩ = some (.int .i64 W) ∧ w'.cell? ⟨wd.heap.size, 1, none⟩ = some (.int .i64 H) ∧ w'.cell? ⟨wd.heap.size, 2, none⟩ = some (.slice A n c)) ((first | exact ⟨q0, q1, q2⟩ | exact ⟨pw_cell_below HBG.out q0, pw_cell_below HBG.out q1, pw_cell_below HBG.out q2⟩ | fail)) ((first
    | (go_at_call 28; refine (refGood_any W H A n c _).mono ?_; rintro e w' ⟨rfl, hB⟩; rw [HG.out]; have HBG := Lib.hid hB; clear hB)
    | (go_at_call 29; refine (refBlocks_any w 3 _ (by omega) (by omega) hb3).mono ?_; rintro e w2' ⟨rfl, rfl⟩; rw [HBL.out])
    | fail))
  have HPX := Lib.hid ((Mods.of_below HBG.out []).blk HRES.out (by simp))
  have p0 := pw_cell_below HBG.out q0; have p1 := pw_cell_below HBG.out q1; have p2 := pw_cell_below HBG.out q2
  have HBW := Lib.hid (show Below wd.heap.size wd w' from below_then (below_drew (((Below.refl _ wd).alloc (Nat.le_refl _) _).alloc (by simp) _)) (by simp [World.drew] <;> omega) HBG.out)
  have hz1 : wd.heap.size + 2 ≤ w'.heap.size := by have := HBG.out.size; simp [World.drew] at this; omega
  have hr := HG.out
  unfold goodI at hr
  obtain ⟨hW1, hW2, hH1, hH2, hnWH⟩ := of_decide_eq_true hr
  have HNW := Lib.hid hnWH
  clear hr hnWH q0 q1 q2 hbb HBG HRES
  obtain ⟨X, hX⟩ : ∃ X, wd.heap.size = X := ⟨_, rfl⟩
  obtain ⟨Z, hZ⟩ : ∃ Z, w'.heap.size = Z := ⟨_, rfl⟩
  have HX := Lib.hid hX; have HZ := Lib.hid hZ
  rw [hX] at p0 p1 p2 hz1
  rw [hZ] at hz1
  have hpx := HPX.out
  rw [hX] at hpx
  have HPX := Lib.hid hpx
  have hbw := HBW.out
  rw [hX] at hbw
  have HBW := Lib.hid hbw
  clear hpx hbw hX hZ
  go_upto_region 7 with fail
  rw [HX.out, HZ.out]
  have hb7 := (Below.refl _ w').alloc (Nat.le_refl _) (.cells #[.int .i64 w, .int .i64 H, .slice none 0 0] 24)
  have hc7 := alloc_new w' #[.int .i64 w, .int .i64 H, .slice none 0 0] 24
  rw [HZ.out] at hb7 hc7
  have HB7 := Lib.hid hb7; have HC7 := Lib.hid hc7
  have hs7 : Z + 1 ≤ (w'.alloc (.cells #[.int .i64 w, .int .i64 H, .slice none 0 0] 24)).heap.size := by have := HZ.out; simp; omega
  clear hb7 hc7
  generalize w'.alloc (.cells #[.int .i64 w, .int .i64 H, .slice none 0 0] 24) = w7 at *
  have hn2 : (n : Int) ≤ 268435456 := by
    have hpW := prod_room (W := W) (H := H) (by omega) (by omega) (by omega) (by omega)
    have := HNW.out; omega
  have hwH : w * H ≤ 268435456 := by
    have hpW := prod_room (W := w) (H := H) (by omega) (by omega) (by omega) (by omega)
    have : ((w * H : Nat) : Int) ≤ 268435456 := by push_cast; omega
    omega
  go_wp2_with fail
  go_loopw [12] (fun yv wr => ∃ (y : Nat) (v : Value), y ≤ H ∧ yv = .int .i64 y ∧ Hid (wr.heap[Z]? = some (.cells #[.int .i64 w, .int .i64 H, v] 24 (0, 0))) ∧ Hid (wr.ownsRow (Z + 1) 31 1 v (y * w) (nums .u32 ((List.range (y * w)).map f))) ∧ Z + 1 ≤ wr.heap.size ∧ Hid (Below Z w' wr)) (fun yv _ => H - (intOf yv).toNat)
  case atStart => exact ⟨0, _, Nat.zero_le _, rfl, HC7.out, by rw [Nat.zero_mul]; exact own_nil _ _ _ _, hs7, HB7.out⟩
  case round =>
    clear HC7 HB7 hs7
    obtain ⟨y, v, hy, rfl, HC, HO, hsz, HBX⟩ := hrel
    have r1 := pw_cell_below (show Below w'.heap.size w' wr by rw [HZ.out]; exact HBX.out) p1
    by_cases hyH : y < H
    · go_wp2_with fail
      clear r1
      go_loopw [13] (fun xv wr => ∃ (x : Nat) (v : Value), x ≤ w ∧ xv = .int .i64 x ∧ Hid (wr.heap[Z]? = some (.cells #[.int .i64 w, .int .i64 H, v] 24 (0, 0))) ∧ Hid (wr.ownsRow (Z + 1) 31 1 v (y * w + x) (nums .u32 ((List.range (y * w + x)).map f))) ∧ Z + 1 ≤ wr.heap.size ∧ Hid (Below Z w' wr)) (fun xv _ => w - (intOf xv).toNat)
      case atStart => exact ⟨0, v, Nat.zero_le _, rfl, HC.out, HO.out, hsz, HBX.out⟩
      case round =>
        clear HC HO hsz HBX
        obtain ⟨x, v, hx, rfl, HC, HO, hsz, HBX⟩ := hrel
        by_cases hxw : x < w
        · have hyl : y * w + x < w * H := by
            have h1 : (y + 1) * w ≤ H * w := Nat.mul_le_mul_right w hyH
            rw [Nat.add_mul, Nat.one_mul, Nat.mul_comm H w] at h1
            omega
          have hVn := blocks_nat (show ((w : Int) + 2 ^ 3 - 1) / 2 ^ 3 = (W : Int) from by have h := HBL.out; unfold blocksI at h; exact h) (by omega)
          obtain ⟨i1, i2, i3⟩ := idx_lt (w := w) (b := 3) (by omega) hVn hyl
          obtain ⟨hqq, hxx⟩ := qm (w := w) (t := y * w + x) rfl hxw
          rw [hqq, hxx] at i3
          rw [hxx] at i2
          have hpw : x / 2 ^ 3 = x / 8 := rfl
          rw [hpw] at i2 i3
          obtain ⟨x2, hx2⟩ : ∃ x2, x / 8 = x2 := ⟨_, rfl⟩
          rw [hx2] at i2 i3
          obtain ⟨r, hr⟩ : ∃ r, y * W = r := ⟨_, rfl⟩
          rw [hr] at i3
          obtain ⟨I, hI⟩ : ∃ I, r + x2 = I := ⟨_, rfl⟩
          rw [hI] at i3
          obtain ⟨t, ht⟩ : ∃ t, y * w + x = t := ⟨_, rfl⟩
          rw [ht] at HO hyl hqq hxx
          have hIn : I < n := by have h := HNW.out; have : (n : Int) = ((W * H : Nat) : Int) := by rw [h]; norm_cast
                                 omega
          have hrI : r ≤ I := by omega
          have e3 : IntKind.i64.wrap ((y : Int) * (W : Int)) = (r : Int) := by rw [show (y : Int) * (W : Int) = ((y * W : Nat) : Int) by norm_cast, hr, IntWalk.i64_in _ (by omega)]
          have e4 : (x : Int) / 8 = (x2 : Int) := by first | (rw [← hx2]; norm_cast; done) | simp
          have e5 : IntKind.i64.wrap ((r : Int) + (x2 : Int)) = (I : Int) := by rw [IntWalk.i64_in _ (by omega)]; omega
          have e6 : (0 : Int) ≤ (I : Int) := by omega
          have e7 : (I : Int) < (n : Int) := by omega
          have HBP := Lib.hid (show Below w'.heap.size w' wr by rw [HZ.out]; exact HBX.out)
          have HBT := Lib.hid (show Below wd.heap.size wd wr from by rw [HX.out]; exact below_then HBW.out (by have := HZ.out; omega) HBP.out)
          obtain ⟨ad, ha, hcell⟩ := (HRR.out.below HBT.out).2.2 (by omega)
          subst ha
          have hc := hcell I hIn
          have r0 := pw_cell_below HBP.out p0; have r2 := pw_cell_below HBP.out p2
          obtain ⟨hp0, hp1⟩ : 0 ≤ ps.getD I 0 ∧ ps.getD I 0 < 4294967296 := getD_room HPS.out I
          have HPIX := Lib.hid (show f t = (let n := unpN 3 (ps.getD I 0 / 256 % 256) x; if n < ls.length then ls.getD n.toNat 0 else 0) from by
            rw [← HF.out]; unfold unpPix; rw [hqq, hxx, hpw, hx2, hr, hI])
          generalize hpp : ps.getD I 0 = p at *
          clear hcell hpp i1 i2 i3 hqq hxx hVn hpw
          have HTT := Lib.hid ht
          clear ht
          go_wp2_with fail
          go_quiet ((go_at_call 32; exact Calls.quiet_of_same ((part_any p 2 _ hp0 hp1 (by omega)).mono fun _ _ h => ⟨h.1, h.2.symm⟩)))
          have hgr : 0 ≤ partP p 2 ∧ partP p 2 ≤ 255 := by rw [part2]; omega
          rw [← part2] at HPIX
          generalize partP p 2 = G at *
          obtain ⟨hG0, hG1⟩ := hgr
          have hbq : Below wr.heap.size wr (wr.drewN nq) := ⟨rfl, rfl, rfl, Nat.le_of_eq (by rw [heap_drewN]), fun _ _ => by rw [heap_drewN]⟩
          have HC2 := Lib.hid (show (wr.drewN nq).heap[Z]? = some (.cells #[.int .i64 w, .int .i64 H, v] 24 (0, 0)) from by rw [heap_drewN]; exact HC.out)
          have HO2 := Lib.hid (pw_own_below HO.out hbq)
          have hsz2 : Z + 1 ≤ (wr.drewN nq).heap.size := by rw [heap_drewN]; exact hsz
          have HBX2 := Lib.hid (below_then HBX.out (by omega) hbq)
          have HBT2 := Lib.hid (below_then HBT.out (by have := HBT.out.size; omega) hbq)
          clear HC HO hsz HBX HBT HBP hbq e3 e4 e5 e6 e7 r0 r2 hc hp0 hp1
          generalize wr.drewN nq = wq at *
          obtain ⟨J, hJ⟩ : ∃ J, x % 8 * 1 = J := ⟨_, rfl⟩
          have hJ8 : J ≤ 8 := by omega
          have e10 : (x : Int) % 8 * 1 = (J : Int) := by rw [← hJ]; norm_cast
          have HJ := Lib.hid hJ
          clear hJ
          go_wp2_with fail
          go_loopw [14, 15] (fun gv kv wz => ∃ (k : Nat) (g' : Int), k ≤ J ∧ kv = .int .i64 k ∧ gv = .int .i64 g' ∧ Hid (g' = G / 2 ^ k) ∧ 0 ≤ g' ∧ g' ≤ 255 ∧ wz = wq) (fun _ kv _ => J - (intOf kv).toNat)
          case atStart => exact ⟨0, G, Nat.zero_le _, rfl, rfl, Lib.hid (by simp), hG0, hG1, rfl⟩
          case round =>
            obtain ⟨k, g', hk, rfl, rfl, HGG, hg0, hg1, rfl⟩ := hrel
            by_cases hkJ : k < J
            · go_wp2_with fail
              go_roundw
              case rel => exact ⟨k + 1, g' / 2, by omega, by go_num, by go_num, Lib.hid (by rw [HGG.out, half_step]), by omega, by omega, by first | rfl | trivial⟩
              case measure => simp [intOf]; omega
            · have : k = J := by omega
              subst this
              obtain ⟨K, hK⟩ : ∃ K : Nat, g' % 2 = K := ⟨(g' % 2).toNat, by omega⟩
              have hK2 : K ≤ 255 := by omega
              have hun : unpN 3 G x = (K : Int) := by
                show G / 2 ^ (x % 8 * 1) % 2 = _
                rw [HJ.out, ← HGG.out, hK]
              rw [hun] at HPIX
              have hK3 : g'.tmod 2 = (K : Int) := by rw [Int.tmod_eq_emod_of_nonneg hg0]; exact hK
              by_cases hKm : K < m
              · have hd : decide ((K : Int) < (m : Int)) = true := by simp; omega
                obtain ⟨bd, hbd, hcb⟩ := (HSS.out.below HBT2.out).2.2 (by omega)
                subst hbd
                have hck := hcb K hKm
                have HPX2 := Lib.hid (show ls.getD K 0 = f t from by
                  rw [HPIX.out, if_pos (by rw [HSS.out.1]; exact_mod_cast hKm)]; rfl)
                clear hcb HPIX
                generalize ls.getD K 0 = z at *
                have cv := (box3 HC2.out).2.2.1
                go_wp2_with (at_builtin; refine print_append_num (w0 := wr) (Z + 1) rfl _ _ 22 31 .u32 4 rfl Try.underlying22 info_u32 (by decide) _ ((List.range t).map f) (z) rfl rfl (by rw [len_fill]; exact HO2.out) (Below.refl _ _) hsz2 (by rw [len_fill]; omega) ?_)
                intro v1 w1 hown hB1 hg hat
                have hc3 := box_grown HC2.out HO2.out hg
                rw [fill_more HPX2.out] at hown
                obtain ⟨g1, c1, rfl, hg1, hg2⟩ := some_own hown (by omega)
                have hc4 := blk_set hc3 2 (.slice (some ⟨g1, 0, none⟩) (t + 1) c1)
                have ho4 := own_store hown hg1 (.slice (some ⟨g1, 0, none⟩) (t + 1) c1)
                have hb4 := ((pw_below_grown HBX2.out _ (by omega) hg (fun r hr => by have := own_rows HO2.out r hr; omega)).setCell (p := ⟨Z, 2, none⟩) (Nat.le_refl _) (.slice (some ⟨g1, 0, none⟩) (t + 1) c1))
                have hs4 : Z + 1 ≤ (w1.setCell ⟨Z, 2, none⟩ (.slice (some ⟨g1, 0, none⟩) (t + 1) c1)).heap.size := by simp [World.setCell]; omega
                obtain ⟨c0, c1', c2, f0, f1, f2⟩ := box3 hc3
                have HC4 := Lib.hid hc4; have HO4 := Lib.hid ho4; have HB4 := Lib.hid hb4
                clear cv hc3 hc4 ho4 hb4 hown hB1 hg hat HC2 HO2 HBX2
                go_wp2_with fail
                go_roundw
                case rel => exact ⟨x + 1, _, by omega, by go_num, HC4.out, by rw [← Nat.add_assoc, HTT.out]; exact HO4.out, hs4, HB4.out⟩
                case measure => simp [intOf]; omega
              · have hd : decide ((K : Int) < (m : Int)) = false := by simp; omega
                have HPX2 := Lib.hid (show (0 : Int) = f t from by
                  rw [HPIX.out, if_neg (by rw [HSS.out.1]; exact_mod_cast hKm)])
                clear HPIX
                have cv := (box3 HC2.out).2.2.1
                go_wp2_with (at_builtin; refine print_append_num (w0 := wr) (Z + 1) rfl _ _ 22 31 .u32 4 rfl Try.underlying22 info_u32 (by decide) _ ((List.range t).map f) 0 rfl rfl (by rw [len_fill]; exact HO2.out) (Below.refl _ _) hsz2 (by rw [len_fill]; omega) ?_)
                intro v1 w1 hown hB1 hg hat
                have hc3 := box_grown HC2.out HO2.out hg
                rw [fill_more HPX2.out] at hown
                obtain ⟨g1, c1, rfl, hg1, hg2⟩ := some_own hown (by omega)
                have hc4 := blk_set hc3 2 (.slice (some ⟨g1, 0, none⟩) (t + 1) c1)
                have ho4 := own_store hown hg1 (.slice (some ⟨g1, 0, none⟩) (t + 1) c1)
                have hb4 := ((pw_below_grown HBX2.out _ (by omega) hg (fun r hr => by have := own_rows HO2.out r hr; omega)).setCell (p := ⟨Z, 2, none⟩) (Nat.le_refl _) (.slice (some ⟨g1, 0, none⟩) (t + 1) c1))
                have hs4 : Z + 1 ≤ (w1.setCell ⟨Z, 2, none⟩ (.slice (some ⟨g1, 0, none⟩) (t + 1) c1)).heap.size := by simp [World.setCell]; omega
                obtain ⟨c0, c1', c2, f0, f1, f2⟩ := box3 hc3
                have HC4 := Lib.hid hc4; have HO4 := Lib.hid ho4; have HB4 := Lib.hid hb4
                clear cv hc3 hc4 ho4 hb4 hown hB1 hg hat HC2 HO2 HBX2
                go_wp2_with fail
                go_roundw
                case rel => exact ⟨x + 1, _, by omega, by go_num, HC4.out, by rw [← Nat.add_assoc, HTT.out]; exact HO4.out, hs4, HB4.out⟩
                case measure => simp [intOf]; omega
        · have : x = w := by omega
          subst this
          go_wp2_with fail
          go_roundw
          case rel => exact ⟨y + 1, v, by omega, by go_num, HC.out, by rw [Nat.add_mul, Nat.one_mul]; exact HO.out, hsz, HBX.out⟩
          case measure => simp [intOf]; omega
    · have : y = H := by omega
      subst this
      obtain ⟨A2, c3, rfl, hr2⟩ := own_reads HO.out
      have HR2 := Lib.hid hr2
      clear hr2
      obtain ⟨c0, c1, c2, f0, f1, f2⟩ := box3 HC.out
      have hBZ : Below X wd wr := below_then HBW.out (by have := HZ.out; omega) (by rw [HZ.out]; exact HBX.out)
      have HPX2 := Lib.hid ((Mods.of_below (show Below w'.heap.size w' wr by rw [HZ.out]; exact HBX.out) []).blk HPX.out (by simp))
      have HBB := Lib.hid hBZ
      clear hBZ
      obtain ⟨u0, u1, u2, g0, g1, g2⟩ := box3 HPX2.out
      go_wp2_with fail
      refine bodyPost_ret (results_box rfl _ _ _ _ _ _ _ rfl (blk_set3 HPX2.out _ _ _) Try.underlying24 rfl size_image) rfl ?_
      refine ⟨A2, c3, ?_, ?_, by rw [HX.out]; exact below_box HBB.out (by omega) _ _ _⟩
      · rw [Nat.mul_comm w]; rfl
      · rw [Nat.mul_comm w]
        refine ReadsInt.mods HR2.out (mods_box _ _ _ _ _) ?_
        intro a ha
        subst ha
        have h1 := own_rows HO.out a.block (by simp [Value.ownBlock])
        simp; omega
end Go.Proofs.Ytmgkdlkjcncniaa
