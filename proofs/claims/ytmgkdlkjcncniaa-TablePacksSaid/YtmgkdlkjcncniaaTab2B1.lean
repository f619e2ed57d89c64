/- table.Unpack where two to the 1 pixels are one. -/
import Derived.Test.YtmgkdlkjcncniaaTab2P
namespace Go.Proofs.Ytmgkdlkjcncniaa
open Go.RowKit
open Go.Proofs.YtmgkdlkjcncniaaW.PrintWords
set_option maxRecDepth 100000 in
set_option maxHeartbeats 4000000 in
theorem unpack_b1 (W H w : Nat) (A B : Option Addr) (n c m d : Nat) (ps ls : List Int) (wd : World) (HR : ReadsInt wd .u32 A n ps) (HS : ReadsInt wd .u32 B m ls) (hps : ∀ x ∈ ps, 0 ≤ x ∧ x < 4294967296) (hls : ∀ x ∈ ls, 0 ≤ x ∧ x < 4294967296) (h : okU W H n m w = true) (hbB : bitsT m = 1) : Calls Try.prog 12 #[.agg #[.int .i64 W, .int .i64 H, .slice A n c], .slice B m d, .int .i64 w] wd fun e w' =>
    ∃ g, e = .returned (.tuple #[.agg #[.int .i64 w, .int .i64 H, .slice (some ⟨g, 0, none⟩) (w * H) (w * H)], .int .i64 0]) ∧ w'.ownsRow wd.heap.size 31 1 (.slice (some ⟨g, 0, none⟩) (w * H) (w * H)) (w * H) (nums .u32 ((List.range (w * H)).map (unpPix W w (bitsT m) ps ls))) ∧ Below wd.heap.size wd w' := by
  have hm0 : (m : Int) ≤ 9223372036854775807 := by have := HS.2.1; omega
  have HRR := Lib.hid HR; have HSS := Lib.hid HS; have HPS := Lib.hid hps; have HLS := Lib.hid hls
  clear HR HS hps hls
  have hbt := bitsT_le m
  obtain ⟨hg, ht, hw1, hw2, hbl⟩ := okU_parts h
  have HG := Lib.hid hg; have HT := Lib.hid ht; have HBL := Lib.hid hbl
  clear h hg ht hbl
  generalize hb : bitsT m = b at *
  have HB := Lib.hid hb
  have HBB := Lib.hid hbB
  clear hb hbB
  go_enter Try.func12, Try.ntmps12
  go_wp2_with (go_at_call 18; refine (bits_any _ _).mono ?_; rw [HB.out]; rintro e w' ⟨rfl, rfl⟩)
  have hbb : Below (wd.alloc (.cells #[.int .i64 W, .int .i64 H, .slice A n c] 24)).heap.size (wd.alloc (.cells #[.int .i64 W, .int .i64 H, .slice A n c] 24)) ((wd.alloc (.cells #[.int .i64 W, .int .i64 H, .slice A n c] 24)).alloc (.cells #[.int .i64 0, .int .i64 0, .slice none 0 0] 24)).drew := below_drew ((Below.refl _ _).alloc (Nat.le_refl _) _)
  have hnew : (wd.alloc (.cells #[.int .i64 W, .int .i64 H, .slice A n c] 24)).heap[wd.heap.size]? = some (.cells #[.int .i64 W, .int .i64 H, .slice A n c] 24 (0, 0)) := alloc_new _ _ _
  have q0 := pw_cell_below hbb (show (wd.alloc (.cells #[.int .i64 W, .int .i64 H, .slice A n c] 24)).cell? ⟨wd.heap.size, 0, none⟩ = some (.int .i64 W) by rw [cell_blk hnew]; rfl)
  have q1 := pw_cell_below hbb (show (wd.alloc (.cells #[.int .i64 W, .int .i64 H, .slice A n c] 24)).cell? ⟨wd.heap.size, 1, none⟩ = some (.int .i64 H) by rw [cell_blk hnew]; rfl)
  have q2 := pw_cell_below hbb (show (wd.alloc (.cells #[.int .i64 W, .int .i64 H, .slice A n c] 24)).cell? ⟨wd.heap.size, 2, none⟩ = some (.slice A n c) by rw [cell_blk hnew]; rfl)
  clear hnew
  have hres : ((wd.alloc (.cells #[.int .i64 W, .int .i64 H, .slice A n c] 24)).alloc (.cells #[.int .i64 0, .int .i64 0, .slice none 0 0] 24)).drew.heap[wd.heap.size + 1]? = some (.cells #[.int .i64 0, .int .i64 0, .slice none 0 0] 24 (0, 0)) := by
    have h := alloc_new (wd.alloc (.cells #[.int .i64 W, .int .i64 H, .slice A n c] 24)) #[.int .i64 0, .int .i64 0, .slice none 0 0] 24
    rw [World.size_alloc] at h; exact h
  have HRES := Lib.hid hres
  clear hres
  have d1 : decide ((w : Int) < 1) = false := decide_eq_false (by omega)
  have d2 : decide (16384 < (w : Int)) = false := decide_eq_false (by omega)
  go_region_held3 (fun w' => w'.cell? ⟨wd.heap.size, 0, none⟩ = some (.int .i64 W) ∧ w'.cell? ⟨wd.heap.size, 1, none⟩ = some (.int .i64 H) ∧ w'.cell? ⟨wd.heap.size, 2, none⟩ = some (.slice A n c)) ((first | exact ⟨q0, q1, q2⟩ | exact ⟨pw_cell_below HBG.out q0, pw_cell_below HBG.out q1, pw_cell_below HBG.out q2⟩ | fail)) ((first
    | (go_at_call 22; refine (good_any W H A n c _).mono ?_; rintro e w' ⟨rfl, hB⟩; rw [HG.out]; have HBG := Lib.hid hB; clear hB)
    | (go_at_call 25; refine (goodT_any B m d _).mono ?_; rintro e w2' ⟨rfl, rfl⟩; rw [HT.out])
    | (go_at_call 27; refine (blocks_any w b _ (by omega) (by omega) hbt).mono ?_; rintro e w2' ⟨rfl, rfl⟩; rw [HBL.out])
    | fail))
  have HPX := Lib.hid ((Mods.of_below HBG.out []).blk HRES.out (by simp))
  have p0 := pw_cell_below HBG.out q0; have p1 := pw_cell_below HBG.out q1; have p2 := pw_cell_below HBG.out q2
  have HBW := Lib.hid (show Below wd.heap.size wd w' from below_then (below_drew (((Below.refl _ wd).alloc (Nat.le_refl _) _).alloc (by simp) _)) (by simp [World.drew] <;> omega) HBG.out)
  have hz1 : wd.heap.size + 2 ≤ w'.heap.size := by have := HBG.out.size; simp [World.drew] at this; omega
  have hr := HG.out
  unfold goodI at hr
  obtain ⟨hW1, hW2, hH1, hH2, hnWH⟩ := of_decide_eq_true hr
  have hpr := prod_room hw1 hw2 hH1 hH2
  obtain ⟨N, hN⟩ : ∃ N : Nat, (w : Int) * (H : Int) = N := ⟨w * H, by norm_cast⟩
  have hNr : 1 ≤ N ∧ N ≤ 268435456 := by omega
  have hwN : IntKind.i64.wrap ((w : Int) * (H : Int)) = (N : Int) := by rw [IntWalk.i64_in _ (by omega)]; exact hN
  have hmk := print_make (P := Try.prog) 22 31 .u32 4 Try.underlying22 info_u32 (by decide) N (by omega)
  have HN := Lib.hid hN; have HNW := Lib.hid hnWH
  clear hr hpr hN hnWH q0 q1 q2 hbb HBG HRES
  have hsz : 8 / 2 ^ b = 8 / 2 ^ b := rfl
  clear hsz
  go_upto_region 5 with fail
  have hne := World.new_ne w' ⟨wd.heap.size, 1, none⟩ (by first | omega | exact ⟨_, p1⟩ | exact p1 | simp [p1])
  go_cut [10] from 48 to 56 (fun t wx => ∃ ga gb : Nat, t = .pointer (some ⟨ga, 0, none⟩) ∧ Hid (wx.heap[ga]? = some (.cells #[.int .i64 w, .int .i64 H, .slice (some ⟨gb, 0, none⟩) N N] 24 (0, 0))) ∧ Hid (wx.ownsRow w'.heap.size 31 1 (.slice (some ⟨gb, 0, none⟩) N N) N (nums .u32 (List.replicate N 0))) ∧ ga ≠ gb ∧ w'.heap.size ≤ ga ∧ w'.heap.size ≤ gb ∧ Hid (Below w'.heap.size w' wx))
  case first =>
    go_region_held3 (fun wz => wz.cell? ⟨wd.heap.size, 1, none⟩ = some (.int .i64 H)) ((first | exact p1 | go_keep)) ((fail))
    all_goals
      go_wp2_with fail
      go_meet
      first
        | exact ⟨_, _, rfl, (laid_box w' _ _ _ N (by omega)).1, (laid_box w' _ _ _ N (by omega)).2.1, by omega, by omega, by omega, (laid_box w' _ _ _ N (by omega)).2.2⟩
        | exact ⟨_, _, rfl, (laid_row w' _ _ _ N (by omega)).1, (laid_row w' _ _ _ N (by omega)).2.1, by omega, by omega, by omega, (laid_row w' _ _ _ N (by omega)).2.2⟩
  case rest =>
    obtain ⟨ga, gb, rfl, HGA, HGB, hab, hga, hgb, HBX⟩ := hcut
    have hc2 : wc.cell? ⟨ga, 2, none⟩ = some (.slice (some ⟨gb, 0, none⟩) N N) := by rw [cell_blk HGA.out]; rfl
    go_wp2_with fail
    clear hc2
    go_loopw [11, 12, 13, 14, 15, 16, 17, 60] (fun _ _ _ _ _ _ _ i wr => ∃ t : Nat, t ≤ N ∧ i = .int .i64 t ∧ Hid (wr.heap[ga]? = some (.cells #[.int .i64 w, .int .i64 H, .slice (some ⟨gb, 0, none⟩) N N] 24 (0, 0))) ∧ Hid (wr.ownsRow w'.heap.size 31 1 (.slice (some ⟨gb, 0, none⟩) N N) N (nums .u32 ((List.range t).map (unpPix W w b ps ls) ++ List.replicate (N - t) 0))) ∧ Hid (Below w'.heap.size w' wr)) (fun _ _ _ _ _ _ _ i _ => N - (intOf i).toNat)
    case atStart => exact ⟨0, by omega, rfl, HGA.out, by show World.ownsRow _ _ _ _ _ _ _; simpa using HGB.out, HBX.out⟩
    case round =>
      clear HGA HGB HBX
      obtain ⟨t, ht, rfl, HGA, HGB, HBX⟩ := hrel
      by_cases htN : t < N
      · obtain ⟨i1, i2, i3⟩ := idx_lt (w := w) (b := b) (by omega) (by have h := HBL.out; unfold blocksI at h; exact blocks_nat h (by omega)) (show t < w * H by have := HN.out; exact_mod_cast (show (t : Int) < (w : Int) * (H : Int) by omega))
        obtain ⟨q, hq⟩ : ∃ q, t / w = q := ⟨_, rfl⟩
        obtain ⟨x, hx⟩ : ∃ x, t % w = x := ⟨_, rfl⟩
        rw [hq, hx] at i3
        rw [hq] at i1; rw [hx] at i2
        obtain ⟨y, hy⟩ : ∃ y, x / 2 ^ b = y := ⟨_, rfl⟩
        rw [hy] at i2 i3
        obtain ⟨r, hr⟩ : ∃ r, q * W = r := ⟨_, rfl⟩
        rw [hr] at i3
        obtain ⟨I, hI⟩ : ∃ I, r + y = I := ⟨_, rfl⟩
        rw [hI] at i3
        have hIn : I < n := by have h := HNW.out; have : (n : Int) = ((W * H : Nat) : Int) := by rw [h]; norm_cast
                               omega
        have hxw : x < w := by rw [← hx]; exact Nat.mod_lt _ (by omega)
        have e1 : (t : Int) % (w : Int) = (x : Int) := by rw [← hx]; norm_cast
        have e2 : (t : Int) / (w : Int) = (q : Int) := by rw [← hq]; norm_cast
        have hw0 : (w : Int) ≠ 0 := by omega
        have hw0' : ((w : Int) == 0) = false := by simp; omega
        have e8 : (t : Int).tdiv (w : Int) = (q : Int) := by rw [Int.tdiv_eq_ediv_of_nonneg (by omega)]; exact e2
        have e9 : IntKind.i64.wrap (q : Int) = (q : Int) := by rw [IntWalk.i64_in _ (by omega)]
        have hwn : ¬ w = 0 := by omega
        have hrI : r ≤ I := by omega
        have hn2 : n ≤ 268435456 := by
          have hpW := prod_room (W := W) (H := H) (by omega) (by omega) (by omega) (by omega)
          have := HNW.out; omega
        have e3 : IntKind.i64.wrap ((q : Int) * (W : Int)) = (r : Int) := by rw [show (q : Int) * (W : Int) = ((q * W : Nat) : Int) by norm_cast, hr, IntWalk.i64_in _ (by omega)]
        have e4 : (x : Int) / 2 ^ b = (y : Int) := by rw [← hy]; norm_cast
        have e5 : IntKind.i64.wrap ((r : Int) + (y : Int)) = (I : Int) := by rw [IntWalk.i64_in _ (by omega)]; omega
        have e6 : (0 : Int) ≤ (I : Int) := by omega
        have e7 : (I : Int) < (n : Int) := by omega
        have HBT := Lib.hid (show Below wd.heap.size wd wr from below_then HBW.out HBW.out.size HBX.out)
        obtain ⟨ad, ha, hcell⟩ := (HRR.out.below HBT.out).2.2 (by omega)
        subst ha
        have hc := hcell I hIn
        have r0 := pw_cell_below HBX.out p0; have r1 := pw_cell_below HBX.out p1; have r2 := pw_cell_below HBX.out p2
        obtain ⟨hp0, hp1⟩ : 0 ≤ ps.getD I 0 ∧ ps.getD I 0 < 4294967296 := getD_room HPS.out I
        have HXY := Lib.hid (And.intro hq (And.intro hx (And.intro hy (And.intro hr hI))))
        generalize hpp : ps.getD I 0 = p at *
        have HPP := Lib.hid hpp
        clear hcell hq hx hy hr hI hpp i1 i2 i3
        go_wp2_with fail
        go_quiet ((go_at_call 31; exact Calls.quiet_of_same ((parts_any p _ hp0 hp1).mono fun _ _ h => ⟨h.1, h.2.symm⟩)))
        go_wp2_with fail
        have hg0 : 0 ≤ p / 256 % 256 ∧ p / 256 % 256 ≤ 255 := by omega
        generalize hgg : p / 256 % 256 = g at *
        obtain ⟨hg0, hg1⟩ := hg0
        have HGG := Lib.hid hgg
        clear hgg e1 e2 e3 e4 e5 e6 e7 hp0 hp1
        clear hmk
        have hbb := HBB.out
        subst hbb
        clear HBB
        · obtain ⟨K, hK, hU⟩ := num1 hg0 hg1 (t % w)
          have HU := Lib.hid hU
          clear hU
          by_cases hKm : K < m
          · have hd : decide ((K : Int) < (m : Int)) = true := by simp; omega
            obtain ⟨bd, hbd, hcb⟩ := (HSS.out.below HBT.out).2.2 (by omega)
            subst hbd
            have hck := hcb K hKm
            have HPIX := Lib.hid (show unpPix W w 1 ps ls t = ls.getD K 0 from by
              have h := HXY.out; have hl := HSS.out.1
              unfold unpPix
              simp only [h.1, h.2.1, h.2.2.1, h.2.2.2.1, h.2.2.2.2, HPP.out, HGG.out]
              rw [← h.2.1, HU.out, if_pos (by omega), Int.toNat_natCast])
            generalize ls.getD K 0 = v at *
            go_quiet (fail)
            go_wp2_with fail
            generalize hw5 : wr.drewN _ = w5
            have HG5 := Lib.hid (show w5.heap[ga]? = some (.cells #[.int .i64 w, .int .i64 H, .slice (some ⟨gb, 0, none⟩) N N] 24 (0, 0)) from by rw [← hw5]; exact HGA.out)
            have HO5 := Lib.hid (show w5.ownsRow w'.heap.size 31 1 (.slice (some ⟨gb, 0, none⟩) N N) N (nums .u32 ((List.range t).map (unpPix W w 1 ps ls) ++ List.replicate (N - t) 0)) from by rw [← hw5]; exact HGB.out)
            have HB5 := Lib.hid (show Below w'.heap.size w' w5 from by rw [← hw5]; exact pw_below_drewN HBX.out _)
            have s1 : w5.cell? ⟨ga, 2, none⟩ = some (.slice (some ⟨gb, 0, none⟩) N N) := by rw [cell_blk HG5.out]; rfl
            have s2 : w5.cell? (bd.add K) = some (.int .u32 v) := by rw [← hw5]; exact hck
            obtain ⟨a5, ha5, hc5⟩ := (own_reads' HO5.out).2.2 (by omega)
            cases ha5
            have s3 := hc5 t htN
            rw [add_plain] at s3
            have hf5 : w5.frozen? ⟨gb, t, none⟩ = false := by
              rcases HO5.out.2 with ⟨h, _⟩ | ⟨g', cap, cur', h1, _, hh, _⟩
              · cases h
              · cases h1; exact free_blk hh _
            have e11 : (t : Int) < (N : Int) := by omega
            have e12 : (0 : Int) ≤ (t : Int) := by omega
            have e13 : (K : Int) < (m : Int) := by omega
            have e14 : (0 : Int) ≤ (K : Int) := by omega
            have hbl : bd.block < wd.heap.size := block_of (HSS.out) (by omega)
            have t1 : (w5.setCell ⟨gb, t, none⟩ (.int .u32 v)).drew.cell? ⟨ga, 2, none⟩ = some (.slice (some ⟨gb, 0, none⟩) N N) := (World.cell?_setCell_far _ _ _ _ (by dsimp only; omega)).trans s1
            have t2 : (w5.setCell ⟨gb, t, none⟩ (.int .u32 v)).drew.cell? (bd.add K) = some (.int .u32 v) := (World.cell?_setCell_far _ _ _ _ (by rw [add_block]; dsimp only; omega)).trans s2
            clear hw5 hc5 hcb hck r0 r1 r2 hc HGA HGB HBX HBT
            go_region_held3 (fun wz => wz.cell? ⟨ga, 2, none⟩ = some (.slice (some ⟨gb, 0, none⟩) N N) ∧ wz.cell? (bd.add K) = some (.int .u32 v)) ((first | exact ⟨s1, s2⟩ | exact ⟨t1, t2⟩ | go_keep)) ((fail))
            all_goals
              go_wp2_with fail
              go_roundw
            case rel =>
              have hm5 : Mods [gb] w5 (w5.setCell ⟨gb, t, none⟩ (.int .u32 v)).drew := ((Mods.refl [gb] w5).setCell (p := ⟨gb, t, none⟩) (.inl (by simp)) _).drew
              have ho5 := (World.ownsRow.stored HO5.out t (.int .u32 v)).1
              rw [← nums_set32, fill_set _ N t htN v HPIX.out.symm] at ho5
              refine ⟨_, _, _, _, _, _, _, _, _, _, _, _, _, _, _, _, _, _, _, _, _, _, _, _, _, _, _, _, _, _, _, _, _, _, _, _, _, _, _, _, _, _, _, _, _, _, _, _, _, _, _, _, _, _, _, _, _, _, _, ⟨t + 1, ?_, ?_, ?_, ?_, ?_⟩, rfl⟩
              · omega
              · go_num
              · exact hm5.blk HG5.out (by simp; omega)
              · exact ho5
              · exact below_drew (HB5.out.setCell (p := ⟨gb, t, none⟩) hgb _)
            case measure => simp [intOf]; omega
          · have hd : decide ((K : Int) < (m : Int)) = false := by simp; omega
            have HPIX := Lib.hid (show unpPix W w 1 ps ls t = 0 from by
              have h := HXY.out; have hl := HSS.out.1
              unfold unpPix
              simp only [h.1, h.2.1, h.2.2.1, h.2.2.2.1, h.2.2.2.2, HPP.out, HGG.out]
              rw [← h.2.1, HU.out, if_neg (by omega)])
            go_quiet (fail)
            go_wp2_with fail
            go_roundw
            case rel =>
              have h := HGB.out
              rw [fill_none _ N t htN HPIX.out] at h
              exact ⟨t + 1, by omega, by go_num, HGA.out, h, pw_below_drewN HBX.out _⟩
            case measure => simp [intOf]; omega
      · have e : t = N := by omega
        subst e
        have HBT := Lib.hid (show Below wd.heap.size wd wr from below_then HBW.out HBW.out.size HBX.out)
        have HPR := Lib.hid ((Mods.of_below HBX.out []).blk HPX.out (by simp))
        have HOW := HGB
        rw [Nat.sub_self, List.replicate_zero, List.append_nil] at HOW
        have s0 : wr.cell? ⟨ga, 0, none⟩ = some (.int .i64 w) := by rw [cell_blk HGA.out]; rfl
        have s1 : wr.cell? ⟨ga, 1, none⟩ = some (.int .i64 H) := by rw [cell_blk HGA.out]; rfl
        have s2 : wr.cell? ⟨ga, 2, none⟩ = some (.slice (some ⟨gb, 0, none⟩) t t) := by rw [cell_blk HGA.out]; rfl
        have u0 : wr.cell? ⟨wd.heap.size + 1, 0, none⟩ = some (.int .i64 0) := by rw [cell_blk HPR.out]; rfl
        have u1 : wr.cell? ⟨wd.heap.size + 1, 1, none⟩ = some (.int .i64 0) := by rw [cell_blk HPR.out]; rfl
        have u2 : wr.cell? ⟨wd.heap.size + 1, 2, none⟩ = some (.slice none 0 0) := by rw [cell_blk HPR.out]; rfl
        have f0 : wr.frozen? ⟨wd.heap.size + 1, 0, none⟩ = false := free_blk HPR.out _
        have f1 : wr.frozen? ⟨wd.heap.size + 1, 1, none⟩ = false := free_blk HPR.out _
        have f2 : wr.frozen? ⟨wd.heap.size + 1, 2, none⟩ = false := free_blk HPR.out _
        clear HGA HGB p0 p1 p2 hmk hwN
        go_wp2_with fail
        refine bodyPost_ret (results_box rfl _ _ _ _ _ _ _ rfl (blk_set3 HPR.out _ _ _) Try.underlying24 rfl size_image) rfl ?_
        have hwh : w * H = t := by have h := HN.out; exact_mod_cast h
        rw [hwh]
        have hO := own_base (own_mods HOW.out (mods_box (wd.heap.size + 1) wr (.int .i64 w) (.int .i64 H) (.slice (some ⟨gb, 0, none⟩) t t)) (by simp; omega)) (show wd.heap.size ≤ w'.heap.size by omega)
        exact ⟨gb, rfl, hO, below_box HBT.out (by omega) _ _ _⟩
end Go.Proofs.Ytmgkdlkjcncniaa
