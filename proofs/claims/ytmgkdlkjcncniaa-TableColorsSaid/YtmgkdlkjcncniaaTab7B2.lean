/- table.Pack where two to the 2 pixels are one. -/
import Derived.Test.YtmgkdlkjcncniaaTab7P
namespace Go.Proofs.Ytmgkdlkjcncniaa
open Go.RowKit Go.Maps
open Go.Proofs.YtmgkdlkjcncniaaW.PrintWords

set_option maxRecDepth 100000 in
set_option maxHeartbeats 4000000 in
theorem pack_b2 (W H : Nat) (A : Option Addr) (ad : Addr) (n c m d : Nat) (ps ls : List Int) (w : World) (HR : ReadsInt w .u32 A n ps) (HS : ReadsInt w .u32 (some ad) m ls) (hps : ∀ x ∈ ps, 0 ≤ x ∧ x < 4294967296) (hls : ∀ x ∈ ls, 0 ≤ x ∧ x < 4294967296) (hal : ad.block < w.heap.size) (h : okP W H n m = true) (V : Nat) (hV : blocksI W (bitsT m) = V) (hbB : bitsT m = 2) :
    Calls Try.prog 10 #[.agg #[.int .i64 W, .int .i64 H, .slice A n c], .slice (some ad) m d] w fun e w' => packPost W H V n ls ps (bitsT m) w e w' := by
  have HRR := Lib.hid HR; have HSS := Lib.hid HS; have HPS := Lib.hid hps; have HLS := Lib.hid hls
  unfold okP at h
  have h2 : goodI W H n = true ∧ goodT m = true := by simpa using h
  have HG := Lib.hid h2.1; have HT := Lib.hid h2.2
  have hm : 1 ≤ m ∧ m ≤ 256 := by have := h2.2; unfold goodT at this; exact of_decide_eq_true this
  have hr := h2.1
  unfold goodI at hr
  obtain ⟨hW1, hW2, hH1, hH2, hnWH⟩ := of_decide_eq_true hr
  have hpr := prod_room hW1 hW2 hH1 hH2
  have hnr : n ≤ 268435456 := by omega
  obtain ⟨hm1, hm2⟩ := hm
  have hbt := bitsT_le m
  have HPB := Lib.hid (fun k => pnum_lt (ps := ps) HSS.out.1 hm2 k)
  generalize hb : bitsT m = b at *
  have HB := Lib.hid hb; have HNW := Lib.hid hnWH; have HBB0 := Lib.hid hbB
  clear hbB
  have HV := Lib.hid hV
  have hnew := alloc_new (w.alloc (.cells #[.int .i64 W, .int .i64 H, .slice A n c] 24)) #[.int .i64 0, .int .i64 0, .slice none 0 0] 24
  rw [World.size_alloc] at hnew
  have him := ((Mods.refl [] _).alloc (.cells #[.int .i64 0, .int .i64 0, .slice none 0 0] 24)).blk (alloc_new w #[.int .i64 W, .int .i64 H, .slice A n c] 24) (by simp)
  have hb0 := ((Below.refl _ w).alloc (Nat.le_refl _) (.cells #[.int .i64 W, .int .i64 H, .slice A n c] 24)).alloc (by simp) (.cells #[.int .i64 0, .int .i64 0, .slice none 0 0] 24)
  have HNEW := Lib.hid hnew; have HIM := Lib.hid him; have HB0 := Lib.hid hb0
  clear HR HS hps hls h h2 hr hnWH hpr hb hV hnew him hb0
  go_enter Try.func10, Try.ntmps10
  go_wp2_with (first
    | (go_at_call 22; refine (good_any W H A n c _).mono ?_; rw [HG.out]; rintro e w1 ⟨rfl, hB⟩; have HPX := Lib.hid ((Mods.of_below hB []).blk HNEW.out (by simp)); have HIX := Lib.hid ((Mods.of_below hB []).blk HIM.out (by simp)); have HBB := Lib.hid (below_then HB0.out (by simp; omega) hB); have hz1 : w.heap.size + 2 ≤ w1.heap.size := by (have := hB.size; simp at this; omega)
       clear hB)
    | (go_at_call 25; refine (goodT_any (some ad) m d _).mono ?_; rw [HT.out]; rintro e w2' ⟨rfl, rfl⟩)
    | (go_at_call 18; refine (bits_any _ _).mono ?_; rw [HB.out]; rintro e w' ⟨rfl, rfl⟩)
    | fail)
  have hs1 : ReadsInt w1 .u32 (some ad) m ls := HSS.out.below HBB.out
  refine (numbers_any ad m d ls w1 hm2 hs1 HLS.out (by have := HBB.out.size; omega)).mono ?_
  rintro e w3 ⟨B, D, rfl, hBw, hown, hnum, hb3⟩
  have HOWN := Lib.hid hown; have HNUM := Lib.hid hnum; have HBB3 := Lib.hid hb3
  have HPX3 := Lib.hid ((Mods.of_below hb3 []).blk HPX.out (by simp)); have HIX3 := Lib.hid ((Mods.of_below hb3 []).blk HIX.out (by simp))
  obtain ⟨i0, i1, i2, _, _, _⟩ := box3 HIX3.out
  have hz3 : w1.heap.size ≤ w3.heap.size := hb3.size
  clear hs1 hown hnum hb3 HB0 HNEW HIM HPX HIX
  go_upto_region 6 with fail
  have hVW : V ≤ 16384 ∧ 1 ≤ V := by
    have hv := HV.out
    unfold blocksI at hv
    have := blocks_nat hv (by omega)
    have hp : 0 < 2 ^ b := Nat.pow_pos (by decide)
    have hp8 : 2 ^ b ≤ 8 := by
      have : b = 0 ∨ b = 1 ∨ b = 2 ∨ b = 3 := by omega
      rcases this with rfl | rfl | rfl | rfl <;> decide
    constructor
    · rw [this]
      have : (W + 2 ^ b - 1) / 2 ^ b ≤ W := by
        rw [Nat.div_le_iff_le_mul_add_pred hp]
        have : W ≤ W * 2 ^ b := Nat.le_mul_of_pos_right W hp
        rw [Nat.mul_comm]; omega
      omega
    · rw [this, Nat.le_div_iff_mul_le hp]; omega
  obtain ⟨hV1, hV2⟩ := hVW
  have hpr2 := prod_room (W := V) (H := H) (by omega) (by omega) (by omega) (by omega)
  obtain ⟨N, hN⟩ : ∃ N : Nat, (V : Int) * (H : Int) = N := ⟨V * H, by norm_cast⟩
  have hNr : 1 ≤ N ∧ N ≤ 268435456 := by omega
  have hwN : IntKind.i64.wrap ((V : Int) * (H : Int)) = (N : Int) := by rw [IntWalk.i64_in _ (by omega)]; exact hN
  have hmk := print_make (P := Try.prog) 22 31 .u32 4 Try.underlying22 info_u32 (by decide) N (by omega)
  have HN := Lib.hid hN
  clear hpr2 hN
  go_cut [9] from 32 to 38 (fun t wx => ∃ ga : Nat, t = .pointer (some ⟨ga, 0, none⟩) ∧ Hid (wx.heap[ga]? = some (.cells #[.int .i64 V, .int .i64 H, .slice none 0 0] 24 (0, 0))) ∧ w3.heap.size ≤ ga ∧ Hid (Below w3.heap.size w3 wx))
  case first =>
    go_region_held3 (fun wz => wz.cell? ⟨w.heap.size, 0, none⟩ = some (.int .i64 W) ∧ wz.cell? ⟨w.heap.size, 1, none⟩ = some (.int .i64 H)) ((first | exact ⟨i0, i1⟩ | go_keep | fail)) ((first
      | (go_at_call 27; refine (blocks_any W b _ (by omega) (by omega) hbt).mono ?_; rintro e w2' ⟨rfl, rfl⟩; rw [HV.out]) | fail))
    all_goals
      go_wp2_with fail
      go_meet
      exact ⟨_, rfl, alloc_new _ _ _, Nat.le_refl _, below_drew ((Below.refl _ _).alloc (Nat.le_refl _) _)⟩
  case rest =>
    obtain ⟨ga, rfl, HGA, hga, HBC⟩ := hcut
    have hgl : ga < wc.heap.size := blk_lt HGA.out
    obtain ⟨a0, a1, a2, a3, a4, a5⟩ := box3 HGA.out
    have hne1 : w.heap.size ≠ ga := by omega
    have hne2 : wc.heap.size ≠ ga := by omega
    have j2 := pw_cell_below HBC.out i2
    have hws : (wc.setCell ⟨ga, 2, none⟩ (.slice (some ⟨wc.heap.size, 0, none⟩) N N)).heap.size = wc.heap.size := by simp [World.setCell]
    have hbs := HBC.out.setCell (p := ⟨ga, 2, none⟩) hga (.slice (some ⟨wc.heap.size, 0, none⟩) N N)
    have hbel := hbs.alloc hbs.size (.cells (madeCells #[.int .u32 0] N) 31)
    have hblk := ((Mods.refl [] _).alloc (.cells (madeCells #[.int .u32 0] N) 31)).blk (blk_set HGA.out 2 (.slice (some ⟨wc.heap.size, 0, none⟩) N N)) (by simp)
    have hrow := own_made (wc.setCell ⟨ga, 2, none⟩ (.slice (some ⟨wc.heap.size, 0, none⟩) N N)) w3.heap.size 31 .u32 N hbs.size (by omega)
    rw [hws] at hrow
    have hj : ∀ o, ((wc.setCell ⟨ga, 2, none⟩ (.slice (some ⟨wc.heap.size, 0, none⟩) N N)).alloc o).cell? ⟨w.heap.size, 2, none⟩ = some (.slice A n c) := fun o => pw_cell_below (w := wc.setCell ⟨ga, 2, none⟩ (.slice (some ⟨wc.heap.size, 0, none⟩) N N)) ((Below.refl _ _).alloc (Nat.le_refl _) o) ((World.cell?_setCell_far _ _ _ _ (by dsimp only; omega)).trans j2)
    clear hws hbs
    have HBEL := Lib.hid hbel; have HBLK := Lib.hid hblk; have HROW := Lib.hid hrow
    clear hbel hblk hrow HGA
    go_wp2_with fail
    obtain ⟨gb, hgb⟩ : ∃ gb, wc.heap.size = gb := ⟨_, rfl⟩
    rw [hgb] at HBEL HBLK HROW hne2 ⊢
    have hgb3 : w3.heap.size ≤ gb := by have := HBC.out.size; omega
    have hBl : B < w3.heap.size := HOWN.out.lt
    clear hj j2 a0 a1 a2 a3 a4 a5 hmk hgb HBC
    generalize (wc.setCell ⟨ga, 2, none⟩ (.slice (some ⟨gb, 0, none⟩) N N)).alloc (.cells (madeCells #[.int .u32 0] N) 31) = w5 at *
    go_loopw [10, 11, 12, 13, 14, 15, 49] (fun _ _ _ _ _ _ i wr => ∃ t : Nat, t ≤ n ∧ i = .int .i64 t ∧ Hid (wr.heap[ga]? = some (.cells #[.int .i64 V, .int .i64 H, .slice (some ⟨gb, 0, none⟩) N N] 24 (0, 0))) ∧ Hid (wr.ownsRow w3.heap.size 31 1 (.slice (some ⟨gb, 0, none⟩) N N) N (nums .u32 ((List.range N).map fun I => (Tb.val W V b (pnum ls ps) t I : Int)))) ∧ Hid (∀ j, j < t → found ls ps j) ∧ Hid (Below w3.heap.size w3 wr)) (fun _ _ _ _ _ _ i _ => n - (intOf i).toNat)
    case atStart =>
      refine ⟨0, Nat.zero_le _, rfl, HBLK.out, ?_, (by intro j hj; omega), HBEL.out⟩
      have h := HROW.out
      have e : (List.range N).map (fun I => (Tb.val W V b (pnum ls ps) 0 I : Int)) = List.replicate N 0 := by
        rw [List.eq_replicate_iff]
        refine ⟨by simp, fun x hx => ?_⟩
        obtain ⟨I, _, rfl⟩ := List.mem_map.1 hx
        simp [Tb.val, Tb.cellK]
      show World.ownsRow _ _ _ _ _ _ _
      rw [e]; exact h
    case round =>
      clear HBEL HBLK HROW
      obtain ⟨t, ht, rfl, HGA, HGB, HF, HBX⟩ := hrel
      have HBT := Lib.hid (show Below w.heap.size w wr from below_then (below_then HBB.out HBB.out.size HBB3.out) (by omega) HBX.out)
      have HPR := Lib.hid ((Mods.of_below HBX.out []).blk HPX3.out (by simp)); have HIR := Lib.hid ((Mods.of_below HBX.out []).blk HIX3.out (by simp))
      obtain ⟨k0, k1, k2, _, _, _⟩ := box3 HIR.out
      by_cases htn : t < n
      · obtain ⟨adp, hA, hcell⟩ := ReadsInt.at_ (HRR.out.below HBT.out) (t : Int) (by omega) (by omega)
        rw [Int.toNat_natCast] at hcell
        subst hA
        have hp : rd ps (t : Int) = ps.getD t 0 := by unfold rd; rw [Int.toNat_natCast]
        have hin : ps.getD t 0 ∈ ps := by rw [List.getD_eq_getElem?_getD, List.getElem?_eq_getElem (by rw [HRR.out.1]; omega)]; exact List.getElem_mem _
        have hpw := HPS.out _ hin
        rw [hp] at hcell
        obtain ⟨p, hpp⟩ : ∃ p, ps.getD t 0 = p := ⟨_, rfl⟩
        rw [hpp] at hcell hpw
        have HPP := Lib.hid hpp
        have hwf : (Lit.int .u32 p).wf = true := by simp [Lit.wf, IntKind.min, IntKind.max, IntKind.bits, IntKind.signed]; omega
        have hkey := keyOf_int_mk Try.underlying31 hwf
        have hown := ownM_below HOWN.out HBX.out hBl
        have hhas := HNUM.out.has p
        have HPW := Lib.hid hpw
        clear hp hin hpp hpw
        cases hfi : fi ls p with
        | none =>
          rw [hfi] at hhas
          have hhas' : Maps.has D (.int .u32 p) = false := hhas
          have HFI := Lib.hid hfi
          obtain ⟨u0, u1, u2, f0, f1, f2⟩ := box3 HPR.out
          clear hhas hfi
          go_wp2_with (first
            | (at_lookup; refine wpList_lookup_own_ok_int _ rfl _ _ 46 rfl 31 3 .i64 lawU Try.underlying46 Try.underlying3 (zeroI _) B m _ rfl hown _ _ rfl hkey ?_; intro c hat hwc)
            | go_in)
          refine bodyPost_ret (results_box rfl _ _ _ _ _ _ _ rfl (blk_set3 HPR.out _ _ _) Try.underlying24 rfl size_image) rfl ?_
          exact ⟨below_box HBT.out (by omega) _ _ _, .inl ⟨t, htn, by rw [HPP.out]; exact HFI.out, rfl⟩⟩
        | some i =>
          rw [hfi] at hhas
          have hhas' : Maps.has D (.int .u32 p) = true := hhas
          have hat0 := HNUM.out.at_ p i hfi
          have him : i < m := by have := fi_lt hfi; rw [HSS.out.1] at this; exact this
          have HPN := Lib.hid (show pnum ls ps t = i by unfold pnum; rw [HPP.out, hfi]; rfl)
          have HFO := Lib.hid (show found ls ps t by unfold found; rw [HPP.out, hfi]; rfl)
          rw [Nat.zero_add] at hat0
          have HAT0 := Lib.hid hat0
          clear hhas hfi hat0
          have htW : t < W * H := by have := HNW.out; exact_mod_cast (show (t : Int) < (W : Int) * (H : Int) by omega)
          have hVn := blocks_nat (show ((W : Int) + 2 ^ b - 1) / 2 ^ b = (V : Int) from by have h := HV.out; unfold blocksI at h; exact h) (by omega)
          obtain ⟨i1', i2', i3'⟩ := idx_lt (w := W) (b := b) (W := V) (H := H) (by omega) hVn htW
          have HVN := Lib.hid hVn
          obtain ⟨q, hq⟩ : ∃ q, t / W = q := ⟨_, rfl⟩
          obtain ⟨x, hx⟩ : ∃ x, t % W = x := ⟨_, rfl⟩
          rw [hq, hx] at i3'
          rw [hq] at i1'; rw [hx] at i2'
          obtain ⟨y, hy⟩ : ∃ y, x / 2 ^ b = y := ⟨_, rfl⟩
          rw [hy] at i2' i3'
          obtain ⟨r, hr⟩ : ∃ r, q * V = r := ⟨_, rfl⟩
          rw [hr] at i3'
          obtain ⟨I, hI⟩ : ∃ I, r + y = I := ⟨_, rfl⟩
          rw [hI] at i3'
          have hIN : I < N := by have := HN.out; have : (N : Int) = ((V * H : Nat) : Int) := by rw [← this]; norm_cast
                                 omega
          have hxW : x < W := by rw [← hx]; exact Nat.mod_lt _ (by omega)
          have e1 : (t : Int) % (W : Int) = (x : Int) := by rw [← hx]; norm_cast
          have e2 : (t : Int) / (W : Int) = (q : Int) := by rw [← hq]; norm_cast
          have hW0 : (W : Int) ≠ 0 := by omega
          have hW0' : ((W : Int) == 0) = false := by simp; omega
          have hWn : ¬ W = 0 := by omega
          have e8 : (t : Int).tdiv (W : Int) = (q : Int) := by rw [Int.tdiv_eq_ediv_of_nonneg (by omega)]; exact e2
          have e10 : (t : Int).tmod (W : Int) = (x : Int) := by rw [Int.tmod_eq_emod_of_nonneg (by omega)]; exact e1
          have e9 : IntKind.i64.wrap (q : Int) = (q : Int) := by rw [IntWalk.i64_in _ (by omega)]
          have hrI : r ≤ I := by omega
          have e3 : IntKind.i64.wrap ((q : Int) * (V : Int)) = (r : Int) := by rw [show (q : Int) * (V : Int) = ((q * V : Nat) : Int) by norm_cast, hr, IntWalk.i64_in _ (by omega)]
          have e4 : (x : Int) / 2 ^ b = (y : Int) := by rw [← hy]; norm_cast
          have e5 : IntKind.i64.wrap ((r : Int) + (y : Int)) = (I : Int) := by rw [IntWalk.i64_in _ (by omega)]; omega
          have e6 : (0 : Int) ≤ (I : Int) := by omega
          have e7 : (I : Int) < (N : Int) := by omega
          obtain ⟨g0, g1, g2, g3, g4, g5⟩ := box3 HGA.out
          have HXY := Lib.hid (And.intro hq (And.intro hx (And.intro hy (And.intro hr hI))))
          clear hq hx hy hr hI i1' i2' i3' htW hVn
          go_wp2_with (first
            | (at_lookup; refine wpList_lookup_own_ok_int _ rfl _ _ 46 rfl 31 3 .i64 lawU Try.underlying46 Try.underlying3 (zeroI _) B m _ rfl hown _ _ rfl hkey ?_; intro c3 hat hwc; (have hci : c3 = (i : Int) := by (have h := HAT0.out; rw [hat] at h; injection h with h; injection h))
               subst hci)
            | go_in)
          go_quiet (fail)
          go_wp2_with fail
          generalize hw6 : wr.drewN _ = w6
          have HG6 := Lib.hid (show w6.heap[ga]? = some (.cells #[.int .i64 V, .int .i64 H, .slice (some ⟨gb, 0, none⟩) N N] 24 (0, 0)) from by rw [← hw6]; exact HGA.out)
          have HO6 := Lib.hid (show w6.ownsRow w3.heap.size 31 1 (.slice (some ⟨gb, 0, none⟩) N N) N (nums .u32 ((List.range N).map fun I => (Tb.val W V b (pnum ls ps) t I : Int))) from by rw [← hw6]; exact HGB.out)
          have HB6 := Lib.hid (show Below w3.heap.size w3 w6 from by rw [← hw6]; exact pw_below_drewN HBX.out _)
          clear hw6 g0 g1 g2 g3 g4 g5 k0 k1 k2 hcell hown hhas' hat e1 e2 e8 e10 e9 e3 e4 e5 HGA HGB HBX HBT HPR HIR
          have hbb := HBB0.out
          subst hbb
          have hxy := HXY.out
          have hII : t / W * V + t % W / 2 ^ 2 = I := by rw [hxy.1, hxy.2.1, hxy.2.2.1, hxy.2.2.2.1]; exact hxy.2.2.2.2
          have hvs := Tb.val_step (W := W) (V := V) (t := t) (N := pnum ls ps) (show 2 ≤ 3 by decide) HVN.out (by omega) (by have := HPB.out; exact this) HPN.out
          rw [hII, hxy.2.1] at hvs
          have hvset := fun v h => val_set (NN := N) (v := v) (N := pnum ls ps) (b := 2) (V := V) (W := W) (by omega) (by rw [hII]; exact hIN) h
          rw [hII] at hvset
          have hvl := val_lt (W := W) (V := V) (t := t) (I := I) (show ∀ k, pnum ls ps k < 2 ^ (8 / 2 ^ 2) by have := HPB.out; exact this)
          have hil : i < 2 ^ (8 / 2 ^ 2) := by have h := HPB.out t; rw [HPN.out] at h; exact h
          obtain ⟨j, hj⟩ : ∃ j, x % 2 ^ 2 = j := ⟨_, rfl⟩
          have hjl : j < 2 ^ 2 := by rw [← hj]; exact Nat.mod_lt _ (by decide)
          rw [hj] at hvs
          obtain ⟨s, hs⟩ : ∃ s, j * (8 / 2 ^ 2) = s := ⟨_, rfl⟩
          rw [hs] at hvs
          have hsz := Tb.size_le (b := 2) (by decide) hjl
          rw [Nat.add_mul, Nat.one_mul, hs] at hsz
          have h8 : i * 2 ^ s < 256 := by
            have h1 : i * 2 ^ s < 2 ^ (8 / 2 ^ 2) * 2 ^ s := Nat.mul_lt_mul_of_pos_right hil (Nat.pow_pos (by decide))
            rw [← Nat.pow_add] at h1
            have h2 : 2 ^ (8 / 2 ^ 2 + s) ≤ 2 ^ 8 := Nat.pow_le_pow_right (by decide) (by omega)
            have : (2 : Nat) ^ 8 = 256 := by decide
            omega
          obtain ⟨v1, hv1⟩ : ∃ v1, i * 2 ^ s = v1 := ⟨_, rfl⟩
          rw [hv1] at hvs h8
          obtain ⟨cv, hcv⟩ : ∃ cv, Tb.val W V 2 (pnum ls ps) t I = cv := ⟨_, rfl⟩
          rw [hcv] at hvs hvl
          have ho1 : 4278190080 ||| v1 * 256 = 4278190080 + v1 * 256 := Tb.black_or _ (by omega)
          rw [ho1] at hvs
          obtain ⟨nv, hnv⟩ : ∃ nv, cv ||| (4278190080 + v1 * 256) = nv := ⟨_, rfl⟩
          rw [hnv] at hvs
          have HVS := Lib.hid (hvset nv hvs)
          have hor1 : bits .or .u32 4278190080 ((v1 : Int) * 256) = 4278190080 + (v1 : Int) * 256 := by
            have := bits_or32 4278190080 (v1 * 256) (by omega) (by omega)
            rw [ho1, show ((v1 * 256 : Nat) : Int) = (v1 : Int) * 256 by omega, show ((4278190080 + v1 * 256 : Nat) : Int) = 4278190080 + (v1 : Int) * 256 by omega] at this
            exact this
          have hor2 : bits .or .u32 (cv : Int) (4278190080 + (v1 : Int) * 256) = (nv : Int) := by
            have := bits_or32 cv (4278190080 + v1 * 256) hvl (by omega)
            rw [hnv, show ((4278190080 + v1 * 256 : Nat) : Int) = 4278190080 + (v1 : Int) * 256 by omega] at this
            exact this
          have hjx : (x : Int) % 2 ^ 2 = (j : Int) := by rw [← hj]; norm_cast
          have hjs : (j : Int) * (8 / 2 ^ 2) = (s : Int) := by rw [← hs]; norm_cast
          have hvv : (i : Int) * 2 ^ s = (v1 : Int) := by rw [← hv1]; norm_cast
          obtain ⟨cc, hfz⟩ := own_at HO6.out (I : Int) (by omega) (by omega)
          rw [Int.toNat_natCast] at cc hfz
          have hrd : rd ((List.range N).map fun I => (Tb.val W V 2 (pnum ls ps) t I : Int)) (I : Int) = cv := by
            unfold rd
            rw [Int.toNat_natCast, List.getD_eq_getElem?_getD, List.getElem?_map, List.getElem?_range hIN]
            simp [hcv]
          rw [hrd] at cc
          have hval : bits BinOp.or .u32 (cv : Int) (bits BinOp.or .u32 4278190080 ((i : Int) * 2 ^ (x % 4 * 2) % 4294967296 * 256 % 4294967296)) = (nv : Int) := by
            have e : (i : Int) * 2 ^ (x % 4 * 2) = (v1 : Int) := by 
              have e0 : x % 4 * 2 = s := by (have h1 := hj; have h2 := hs; omega)
              rw [e0]; exact_mod_cast hv1
            rw [e, Int.emod_eq_of_lt (by omega) (by omega), Int.emod_eq_of_lt (by omega) (by omega), hor1, hor2]
          clear hvset hvs hrd hxy hII hcv hnv hv1 hs hj hjl hil
          have HVAL := Lib.hid hval
          clear hval hor1 hor2 hvv hjs hjx
          go_region
          all_goals go_wp2_with fail
          rw [HVAL.out]
          go_roundw
          case rel =>
            have ho5 := (World.ownsRow.stored HO6.out I (.int .u32 nv)).1
            rw [← nums_set32, HVS.out] at ho5
            have hm5 : Mods [gb] w6 (w6.setCell ⟨gb, I, none⟩ (.int .u32 nv)).drew := ((Mods.refl [gb] w6).setCell (p := ⟨gb, I, none⟩) (.inl (by simp)) _).drew
            have hfo : ∀ j, j < t + 1 → found ls ps j := fun j hj => by
              by_cases h : j < t
              · exact HF.out j h
              · obtain rfl : j = t := by omega
                exact HFO.out
            exact ⟨t + 1, by omega, by go_num, hm5.blk HG6.out (by simp; omega), ho5, hfo, below_drew (HB6.out.setCell (p := ⟨gb, I, none⟩) hgb3 _)⟩
          case measure => simp [intOf]; omega
      · have e : t = n := by omega
        subst e
        obtain ⟨s0, s1, s2, _, _, _⟩ := box3 HGA.out
        obtain ⟨u0, u1, u2, f0, f1, f2⟩ := box3 HPR.out
        have hHO := HGB.out
        clear HGA HGB k0 k1 k2
        go_wp2_with fail
        refine bodyPost_ret (results_box rfl _ _ _ _ _ _ _ rfl (blk_set3 HPR.out _ _ _) Try.underlying24 rfl size_image) rfl ?_
        have hwh : V * H = N := by have h := HN.out; exact_mod_cast h
        refine ⟨below_box HBT.out (by omega) _ _ _, .inr ⟨HF.out, gb, by omega, ?_, ?_⟩⟩
        · rw [hwh]; rfl
        · rw [hwh]
          exact own_reads' (own_mods hHO (mods_box (w.heap.size + 1) wr (.int .i64 V) (.int .i64 H) (.slice (some ⟨gb, 0, none⟩) N N)) (by simp; omega))
end Go.Proofs.Ytmgkdlkjcncniaa
