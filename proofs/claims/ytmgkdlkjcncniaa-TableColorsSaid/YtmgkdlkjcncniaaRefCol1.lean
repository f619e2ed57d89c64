/- The reference's Colors. -/
import Derived.Test.YtmgkdlkjcncniaaRefCol0
import Derived.Deep.RegionHeld3
import Derived.BigQuiet
namespace Go.Proofs.Ytmgkdlkjcncniaa
open Go.RowKit
open Go.Proofs.YtmgkdlkjcncniaaW.PrintWords

theorem refColors_bad (W H : Int) (A : Option Addr) (n c : Nat) (w : World) (hg : goodI W H n = false) : Calls Try.prog 15 #[.agg #[.int .i64 W, .int .i64 H, .slice A n c]] w fun e w' =>
    e = .returned (.tuple #[.slice none 0 0, .bool false]) ∧ Below w.heap.size w w' := by
  have HG := Lib.hid hg
  clear hg
  have hb0 := (Below.refl _ w).alloc (Nat.le_refl _) (.cells #[.int .i64 W, .int .i64 H, .slice A n c] 24)
  have HB0 := Lib.hid hb0
  clear hb0
  go_enter Try.func15, Try.ntmps15
  go_wp2_with fail
  refine (refGood_any W H A n c _).mono ?_
  rintro e w2 ⟨rfl, hB2⟩
  rw [HG.out]
  have HB2 := Lib.hid (below_then HB0.out (by simp) hB2)
  clear hB2
  go_wp2_with fail
  refine bodyPost_ret (results_two rfl _ _ _) rfl ?_
  exact ⟨rfl, HB2.out⟩

set_option maxHeartbeats 4000000 in
theorem refColors_good (W H : Int) (B : Option Addr) (n c : Nat) (ps : List Int) (w : World) (HR : ReadsInt w .u32 B n ps) (hn : n ≤ 100000) (hg : goodI W H n = true) :
    Calls Try.prog 15 #[.agg #[.int .i64 W, .int .i64 H, .slice B n c]] w fun e w' => Below w.heap.size w w' ∧
      ((256 < (Tb.cols ps).length ∧ e = .returned (.tuple #[.slice none 0 0, .bool false])) ∨
       ((Tb.cols ps).length ≤ 256 ∧ ∃ A2 c2, e = .returned (.tuple #[.slice A2 (Tb.cols ps).length c2, .bool true]) ∧ ReadsInt w' .u32 A2 (Tb.cols ps).length (Tb.cols ps))) := by
  have HRR := Lib.hid HR; have HG := Lib.hid hg
  have hn1 : 0 < n := by
    unfold goodI at hg
    obtain ⟨hW1, hW2, hH1, hH2, hnn⟩ := of_decide_eq_true hg
    have : 0 < W * H := Int.mul_pos (by omega) (by omega)
    omega
  obtain ⟨ad, rfl, _⟩ := HR.2.2 hn1
  have hbl : ad.block < w.heap.size := block_of HR hn1
  have hnew := alloc_new w #[.int .i64 W, .int .i64 H, .slice (some ad) n c] 24
  have hb0 := (Below.refl _ w).alloc (Nat.le_refl _) (.cells #[.int .i64 W, .int .i64 H, .slice (some ad) n c] 24)
  obtain ⟨X, hX⟩ : ∃ X, w.heap.size = X := ⟨_, rfl⟩
  rw [hX] at hnew hb0 hbl
  have HX := Lib.hid hX; have HN := Lib.hid hnew; have HB0 := Lib.hid hb0
  clear HR hg hnew hb0 hX
  obtain ⟨i0, i1, i2, _, _, _⟩ := box3 HN.out
  go_enter Try.func15, Try.ntmps15
  go_wp2_with fail
  refine (refGood_any W H (some ad) n c _).mono ?_
  rintro e w2 ⟨rfl, hB2⟩
  rw [HG.out]
  clear i0 i1 i2
  have HN2 := Lib.hid ((Mods.of_below hB2 []).blk HN.out (by simp))
  have HB2 := Lib.hid (below_then HB0.out (by have := HX.out; simp; omega) hB2)
  clear hB2
  rw [HX.out]
  go_wp2_with fail
  go_loopw [4, 5, 6] (fun vo iv _ wr => ∃ (i no co : Nat) (A : Option Addr), i ≤ n ∧ no ≤ 256 ∧ vo = .slice A no co ∧ iv = .int .i64 i ∧ Hid ((A = none ∧ no = 0 ∧ co = 0) ∨ ∃ g, A = some ⟨g, 0, none⟩ ∧ no ≤ co) ∧ Hid (ReadsInt wr .u32 A no (Tb.cols (ps.take i))) ∧ Hid (wr.heap[X]? = some (.cells #[.int .i64 W, .int .i64 H, .slice (some ad) n c] 24 (0, 0))) ∧ Hid (Below X w wr)) (fun _ iv _ _ => n - (intOf iv).toNat)
  case atStart => exact ⟨0, 0, 0, none, Nat.zero_le _, by omega, rfl, rfl, Lib.hid (.inl ⟨rfl, rfl, rfl⟩), ⟨rfl, by simp, fun h => absurd h (Nat.lt_irrefl 0)⟩, HN2.out, HB2.out⟩
  case round =>
    clear HN2 HB2
    obtain ⟨i, no, co, A, hi, hno, rfl, rfl, HAF, HRO, HBX, HBr⟩ := hrel
    have hXw : X < wr.heap.size := by obtain ⟨h, _⟩ := Array.getElem?_eq_some_iff.1 HBX.out; exact h
    have hlen : (Tb.cols (ps.take i)).length = no := HRO.out.1
    obtain ⟨_, _, r2, _, _, _⟩ := box3 HBX.out
    by_cases hin : i < n
    · obtain ⟨L, hL⟩ : ∃ L, Tb.cols (ps.take i) = L := ⟨_, rfl⟩
      obtain ⟨p, hp⟩ : ∃ p, ps.getD i 0 = p := ⟨_, rfl⟩
      have hstep : Tb.cols (ps.take (i + 1)) = Tb.ins p L := by
        rw [List.take_add_one, List.getElem?_eq_getElem (by rw [HRR.out.1]; exact hin)]
        show Tb.cols (ps.take i ++ [_]) = _
        rw [Tb.cols_snoc, hL, ← hp, List.getD_eq_getElem?_getD, List.getElem?_eq_getElem (by rw [HRR.out.1]; exact hin)]; rfl
      have hup : Tb.Up L := hL ▸ Tb.up_cols _
      rw [hL] at HRO hlen
      have hpx : wr.cell? (ad.add i) = some (.int .u32 p) := by
        obtain ⟨a2, h2, h3⟩ := (HRR.out.below (show Below w.heap.size w wr by rw [HX.out]; exact HBr.out)).2.2 (by omega)
        cases h2
        rw [← hp]; exact h3 i hin
      have HUP := Lib.hid hup; have HST := Lib.hid hstep; have HLN := Lib.hid hlen
      have HPX := Lib.hid hpx; have HR2 := Lib.hid r2
      clear hup hstep hlen hL hp
      go_upto_block 2 with fail
      clear r2 hpx
      go_cut [6] from 17 to 34 (fun kv wz => ∃ k : Nat, kv = .int .i64 k ∧ k ≤ no ∧ Hid (∀ j, j < k → L.getD j 0 < p) ∧ Hid (k < no → p ≤ L.getD k 0) ∧ Hid (∃ q, wz = wr.drewN q))
      case first =>
        obtain ⟨wq, hwq⟩ : ∃ wq, wq = wr := ⟨wr, rfl⟩
        subst hwq
        go_wp2_with fail
        go_loopw [6] (fun kv wz => ∃ k : Nat, kv = .int .i64 k ∧ k ≤ no ∧ Hid (∀ j, j < k → L.getD j 0 < p) ∧ Hid (∃ q, wz = wq.drewN q)) (fun kv _ => no - (intOf kv).toNat)
        case atStart => exact ⟨0, rfl, Nat.zero_le _, Lib.hid (fun j h => by omega), Lib.hid ⟨0, rfl⟩⟩
        case round =>
          obtain ⟨k, rfl, hk, HLO, HQ⟩ := hrel
          have r2 : wr.cell? ⟨X, 2, none⟩ = some (.slice (some ad) n c) := by obtain ⟨q, e⟩ := HQ.out; rw [e]; simpa using HR2.out
          have hpx : wr.cell? (ad.add i) = some (.int .u32 p) := by obtain ⟨q, e⟩ := HQ.out; rw [e]; simpa using HPX.out
          by_cases hkn : k < no
          · have hd : decide ((k : Int) < (no : Int)) = true := by simp; omega
            obtain ⟨la, hla, hlc⟩ := HRO.out.2.2 (by omega)
            subst hla
            have hpl : wr.cell? (la.add k) = some (.int .u32 (L.getD k 0)) := by obtain ⟨q, e⟩ := HQ.out; rw [e]; simpa using hlc k hkn
            clear hlc
            have h1 : (0 : Int) ≤ (k : Int) := by omega
            have h2 : (k : Int) < (no : Int) := by omega
            have h3 : (i : Int) < (n : Int) := by omega
            have h4 : (0 : Int) ≤ (i : Int) := by omega
            by_cases hzP : L.getD k 0 < p
            · have hdd : decide (L.getD k 0 < p) = true := decide_eq_true hzP
              have HLO2 := Lib.hid (show ∀ j, j < k + 1 → L.getD j 0 < p from fun j h => by
                by_cases hii : j = k
                · subst hii; exact hzP
                · exact HLO.out j (by omega))
              clear HLO hzP
              generalize L.getD k 0 = z at *
              go_upto_region 8 with fail
              go_quiet (fail)
              go_wp2_with fail
              go_roundw
              case rel => exact ⟨k + 1, by go_num, by omega, HLO2.out, by obtain ⟨q, e⟩ := HQ.out; exact ⟨q + nq, by rw [e, World.drewN_drewN]⟩⟩
              case measure => simp [intOf]; omega
            · have hdd : decide (L.getD k 0 < p) = false := decide_eq_false hzP
              have HGE := Lib.hid (show k < no → p ≤ L.getD k 0 from fun _ => by omega)
              obtain ⟨z, hz⟩ : ∃ z, L.getD k 0 = z := ⟨_, rfl⟩
              rw [hz] at hpl hdd
              clear hzP hz
              go_upto_region 8 with fail
              go_quiet (fail)
              go_wp2_with fail
              go_meet
              exact ⟨k, rfl, hk, HLO, HGE, by obtain ⟨q, e⟩ := HQ.out; exact Lib.hid ⟨q + nq, by rw [e, World.drewN_drewN]⟩⟩
          · obtain rfl : k = no := by omega
            have hd : decide ((k : Int) < (k : Int)) = false := by simp
            have HGE := Lib.hid (show k < k → p ≤ L.getD k 0 from fun h => absurd h (Nat.lt_irrefl _))
            go_upto_region 8 with fail
            go_quiet (fail)
            go_wp2_with fail
            go_meet
            exact ⟨k, rfl, hk, HLO, HGE, by obtain ⟨q, e⟩ := HQ.out; exact Lib.hid ⟨q + nq, by rw [e, World.drewN_drewN]⟩⟩
      case rest =>
        obtain ⟨k, rfl, hk, HLO, HGE, HQ⟩ := hcut
        go_upto_region 10 with fail
        obtain ⟨E, hE⟩ : ∃ E : Bool, decide (k < no ∧ L.getD k 0 = p) = E := ⟨_, rfl⟩
        go_cut [50] from 35 to 50 (fun b wz => b = .bool E ∧ Hid (∃ q, wz = wr.drewN q))
        case first =>
          have r2 : wc.cell? ⟨X, 2, none⟩ = some (.slice (some ad) n c) := by obtain ⟨q, e⟩ := HQ.out; rw [e]; simpa using HR2.out
          have hpx : wc.cell? (ad.add i) = some (.int .u32 p) := by obtain ⟨q, e⟩ := HQ.out; rw [e]; simpa using HPX.out
          have h3 : (i : Int) < (n : Int) := by omega
          have h4 : (0 : Int) ≤ (i : Int) := by omega
          by_cases hkn : k < no
          · have hd : decide ((k : Int) < (no : Int)) = true := by simp; omega
            obtain ⟨la, hla, hlc⟩ := HRO.out.2.2 (by omega)
            subst hla
            have hpl : wc.cell? (la.add k) = some (.int .u32 (L.getD k 0)) := by obtain ⟨q, e⟩ := HQ.out; rw [e]; simpa using hlc k hkn
            clear hlc
            have h1 : (0 : Int) ≤ (k : Int) := by omega
            have h2 : (k : Int) < (no : Int) := by omega
            by_cases hzP : L.getD k 0 = p
            · rw [hzP] at hpl
              obtain rfl : E = true := by rw [← hE]; exact decide_eq_true ⟨hkn, hzP⟩
              clear hzP HGE hE
              go_quiet (fail)
              go_wp2_with fail
              go_meet
              exact ⟨by first | rfl | trivial, by obtain ⟨q, e⟩ := HQ.out; exact Lib.hid ⟨q + nq, by rw [e, World.drewN_drewN]⟩⟩
            · obtain rfl : E = false := by rw [← hE]; exact decide_eq_false fun h => hzP h.2
              have hne4 : (L.getD k 0 == p) = false := by simpa using hzP
              obtain ⟨z, hz⟩ : ∃ z, L.getD k 0 = z := ⟨_, rfl⟩
              rw [hz] at hpl hne4
              clear hzP hz HGE hE
              go_quiet (fail)
              go_wp2_with fail
              go_meet
              exact ⟨by first | rfl | trivial, by obtain ⟨q, e⟩ := HQ.out; exact Lib.hid ⟨q + nq, by rw [e, World.drewN_drewN]⟩⟩
          · obtain rfl : k = no := by omega
            have hd : decide ((k : Int) < (k : Int)) = false := by simp
            obtain rfl : E = false := by rw [← hE]; exact decide_eq_false fun h => absurd h.1 (Nat.lt_irrefl _)
            clear hE
            go_quiet (fail)
            go_wp2_with fail
            go_meet
            exact ⟨by first | rfl | trivial, by obtain ⟨q, e⟩ := HQ.out; exact Lib.hid ⟨q + nq, by rw [e, World.drewN_drewN]⟩⟩
        case rest =>
          obtain ⟨rfl, HQ2⟩ := hcut
          have hbw : Below wr.heap.size wr wc := by
            obtain ⟨q, e⟩ := HQ2.out; rw [e]; exact ⟨rfl, rfl, rfl, Nat.le_of_eq (by rw [heap_drewN]), fun _ _ => by rw [heap_drewN]⟩
          have HBc := Lib.hid (below_then HBr.out (by omega) hbw)
          have HBXc := Lib.hid (show wc.heap[X]? = some (.cells #[.int .i64 W, .int .i64 H, .slice (some ad) n c] 24 (0, 0)) from by obtain ⟨q, e⟩ := HQ2.out; rw [e, heap_drewN]; exact HBX.out)
          have HROc := Lib.hid (HRO.out.below hbw)
          have hXc : X < wc.heap.size := by have := hbw.size; omega
          clear hbw HQ HQ2
          cases E with
          | true =>
            obtain ⟨hkn, hpe⟩ := of_decide_eq_true hE
            have hins : Tb.ins p L = L := Tb.ins_same HUP.out (Tb.mem_at (by rw [HLN.out]; exact hkn) hpe)
            have HST2 := Lib.hid (HST.out.trans hins)
            clear hins hE hkn hpe
            go_wp2_with fail
            go_roundw
            case rel => exact ⟨i + 1, no, co, A, by omega, hno, rfl, by go_num, HAF, Lib.hid (by rw [HST2.out]; exact HROc.out), HBXc, HBc⟩
            case measure => simp [intOf]; omega
          | false =>
            have hne := of_decide_eq_false hE
            have hgt : k < L.length → p < L.getD k 0 := fun h => by
              rw [HLN.out] at h
              have h1 := HGE.out h
              have h2 : L.getD k 0 ≠ p := fun e => hne ⟨h, e⟩
              omega
            have hins := Tb.ins_at L k HLO.out (by rw [HLN.out]; exact hk) hgt
            have hnm := Tb.not_mem_at HUP.out HLO.out hgt
            have hil : (Tb.ins p L).length = no + 1 := by rw [Tb.ins_len hnm, HLN.out]
            clear hne hgt hnm hE
            by_cases h256 : no = 256
            · subst h256
              have hfew : 256 < (Tb.cols ps).length := by
                have := Tb.cols_mono ps (i + 1)
                rw [HST.out, hil] at this; omega
              clear hins hil
              go_wp2_with fail
              refine bodyPost_ret (results_two rfl _ _ _) rfl ?_
              exact ⟨by rw [HX.out]; exact HBc.out, .inl ⟨hfew, rfl⟩⟩
            · have hb256 : ((no : Int) == 256) = false := by simp; omega
              have HINS := Lib.hid hins; have HIL := Lib.hid hil
              clear hins hil
              go_upto_region 13 with fail
              have hpxc : wc.cell? (ad.add i) = some (.int .u32 p) := by
                obtain ⟨a2, h2, h3⟩ := (HRR.out.below (show Below w.heap.size w wc by rw [HX.out]; exact HBc.out)).2.2 (by omega)
                cases h2
                have h4 := h3 i hin
                have h5 : wr.cell? (ad.add i) = some (.int .u32 (ps.getD i 0)) := by
                  obtain ⟨a2, h2, h3⟩ := (HRR.out.below (show Below w.heap.size w wr by rw [HX.out]; exact HBr.out)).2.2 (by omega)
                  cases h2
                  exact h3 i hin
                rw [HPX.out] at h5
                rw [h4, ← h5]
              obtain ⟨_, _, r2, _, _, _⟩ := box3 HBXc.out
              have hadb : ad.block < wc.heap.size := by omega
              have hlow : ∀ W, (Instr.slice 22 (.slice A no co) none (some (.int .i64 (k : Int))) none).run Try.prog W = .ok (.slice A k co) W := fun W => low_slice HAF.out hk W
              obtain ⟨ii, hii, hzz⟩ := Option.map_eq_some_iff.1 info_u32
              simp only [Prod.mk.injEq] at hzz
              obtain ⟨A', hcut, hrd⟩ := print_cut (P := Try.prog) 22 31 .i64 Try.underlying22 hii hzz.2.1 A no co k hk
              have hnc : no ≤ co := by
                rcases HAF.out with ⟨_, h1, h2⟩ | ⟨g, _, h⟩
                · omega
                · exact h
              have HRD := Lib.hid (hrd wc .u32 L hnc HROc.out); have HRL := Lib.hid (HROc.out.take_ k hk)
              clear hrd hzz hii
              have h3 : (i : Int) < (n : Int) := by omega
              have h4 : (0 : Int) ≤ (i : Int) := by omega
              have k1 : (wc.alloc (.cells #[] 31)).drew.heap[wc.heap.size]? = some (.cells #[] 31 (0, 0)) := World.alloc_heap_new _ _
              have b1 : Below wc.heap.size wc (wc.alloc (.cells #[] 31)).drew := below_drew ((Below.refl _ wc).alloc (Nat.le_refl _) _)
              have b2 : Below wc.heap.size wc ((wc.alloc (.cells #[] 31)).alloc (.cells #[.int .u32 p] 31)).drew := below_drew (((Below.refl _ wc).alloc (Nat.le_refl _) _).alloc (by simp) _)
              have b3 : Below wc.heap.size wc ((wc.alloc (.cells #[.int .u32 p] 31)).alloc (.cells #[] 31)).drew := below_drew (((Below.refl _ wc).alloc (Nat.le_refl _) _).alloc (by simp) _)
              have k2 : ((wc.alloc (.cells #[] 31)).alloc (.cells #[.int .u32 p] 31)).drew.heap[wc.heap.size]? = some (.cells #[] 31 (0, 0)) := (Below.heap_alloc _ _ _ (by simp)).trans k1
              have k2' : ((wc.alloc (.cells #[] 31)).alloc (.cells #[.int .u32 p] 31)).drew.heap[wc.heap.size + 1]? = some (.cells #[.int .u32 p] 31 (0, 0)) := by
                have := World.alloc_heap_new (wc.alloc (.cells #[] 31)) (.cells #[.int .u32 p] 31)
                rw [World.size_alloc] at this; exact this
              have k3' : ((wc.alloc (.cells #[.int .u32 p] 31)).alloc (.cells #[] 31)).drew.heap[wc.heap.size]? = some (.cells #[.int .u32 p] 31 (0, 0)) := (Below.heap_alloc _ _ _ (by simp)).trans (World.alloc_heap_new _ _)
              have k3 : ((wc.alloc (.cells #[.int .u32 p] 31)).alloc (.cells #[] 31)).drew.heap[wc.heap.size + 1]? = some (.cells #[] 31 (0, 0)) := by
                have := World.alloc_heap_new (wc.alloc (.cells #[.int .u32 p] 31)) (.cells #[] 31)
                rw [World.size_alloc] at this; exact this
              have hne1 := World.new_ne wc _ r2; have hne2 := World.new_ne wc _ hpxc
              go_region_held3 (fun w' => w'.cell? ⟨X, 2, none⟩ = some (.slice (some ad) n c) ∧ w'.cell? (ad.add i) = some (.int .u32 p))
                ((first | exact ⟨r2, hpxc⟩ | exact ⟨pw_cell_below HB3.out r2, pw_cell_below HB3.out hpxc⟩ | exact ⟨pw_cell_below HB2.out r2, pw_cell_below HB2.out hpxc⟩ | exact ⟨pw_cell_below HB1.out r2, pw_cell_below HB1.out hpxc⟩ | exact ⟨pw_cell_below b1 r2, pw_cell_below b1 hpxc⟩ | exact ⟨pw_cell_below b2 r2, pw_cell_below b2 hpxc⟩ | exact ⟨pw_cell_below b3 r2, pw_cell_below b3 hpxc⟩ | go_keep))
                ((first
                  | (refine step_append_u (w0 := wc) wc.heap.size (by rfl) _ _ 22 31 rfl Try.underlying22 info_u32 (.slice (some ⟨wc.heap.size, 0, none⟩) 0 0) 0 ([]) (L.take k) (A) k co rfl rfl (own_emptyU k1 (by first | omega | (dsimp only; omega))) (HRL.out.below b1) (b1) (by simp [World.drew] <;> omega) (by omega) ?_; intro va w1 hown hB1 hg hat; have HOa := Lib.hid (first_u hown); have HB1 := Lib.hid hB1; have HG1 := Lib.hid hg; have hz1 : wc.heap.size ≤ w1.heap.size := hB1.size; clear hown hB1 hg hat)
                  | (refine step_append_u (w0 := wc) wc.heap.size (by rfl) _ _ 22 31 rfl Try.underlying22 info_u32 (.slice (some ⟨wc.heap.size, 0, none⟩) 0 0) 0 ([]) (L.take k) (A) k co rfl rfl (own_emptyU k2 (by first | omega | (dsimp only; omega))) (HRL.out.below b2) (b2) (by simp [World.drew] <;> omega) (by omega) ?_; intro va w1 hown hB1 hg hat; have HOa := Lib.hid (first_u hown); have HB1 := Lib.hid hB1; have HG1 := Lib.hid hg; have hz1 : wc.heap.size ≤ w1.heap.size := hB1.size; clear hown hB1 hg hat)
                  | (refine step_append_u (w0 := wc) wc.heap.size (by rfl) _ _ 22 31 rfl Try.underlying22 info_u32 (.slice (some ⟨wc.heap.size + 1, 0, none⟩) 0 0) 0 ([]) (L.take k) (A) k co rfl rfl (own_emptyU k3 (by first | omega | (dsimp only; omega))) (HRL.out.below b3) (b3) (by simp [World.drew] <;> omega) (by omega) ?_; intro va w1 hown hB1 hg hat; have HOa := Lib.hid (first_u hown); have HB1 := Lib.hid hB1; have HG1 := Lib.hid hg; have hz1 : wc.heap.size ≤ w1.heap.size := hB1.size; clear hown hB1 hg hat)
                  | (refine step_append_u (w0 := wc) wc.heap.size (by rfl) _ _ 22 31 rfl Try.underlying22 info_u32 (va) k (L.take k) ([p]) (some ⟨w1.heap.size, 0, none⟩) 1 1 rfl rfl (own_alloc HOa.out _) (reads_oneU (World.alloc_heap_new _ _)) (HB1.out.alloc HB1.out.size _) (by first | exact hz1 | (simp; omega)) (by omega) ?_; intro vb w2 hown hB2 hg hat; have HOb := Lib.hid hown; have HB2 := Lib.hid hB2; have hz2 : wc.heap.size ≤ w2.heap.size := hB2.size; clear hown hB2 hg hat)
                  | (refine step_append_u (w0 := wc) wc.heap.size (by rfl) _ _ 22 31 rfl Try.underlying22 info_u32 (va) k (L.take k) ([p]) (some ⟨wc.heap.size + 1, 0, none⟩) 1 1 rfl rfl (HOa.out) (reads_oneU ((HG1.out.block _ (by simp [World.drew] <;> omega) (by simp [Value.ownBlock] <;> omega)).trans k2')) (HB1.out) (by first | exact hz1 | (simp; omega)) (by omega) ?_; intro vb w2 hown hB2 hg hat; have HOb := Lib.hid hown; have HB2 := Lib.hid hB2; have hz2 : wc.heap.size ≤ w2.heap.size := hB2.size; clear hown hB2 hg hat)
                  | (refine step_append_u (w0 := wc) wc.heap.size (by rfl) _ _ 22 31 rfl Try.underlying22 info_u32 (va) k (L.take k) ([p]) (some ⟨wc.heap.size, 0, none⟩) 1 1 rfl rfl (HOa.out) (reads_oneU ((HG1.out.block _ (by simp [World.drew] <;> omega) (by simp [Value.ownBlock] <;> omega)).trans k3')) (HB1.out) (by first | exact hz1 | (simp; omega)) (by omega) ?_; intro vb w2 hown hB2 hg hat; have HOb := Lib.hid hown; have HB2 := Lib.hid hB2; have hz2 : wc.heap.size ≤ w2.heap.size := hB2.size; clear hown hB2 hg hat)
                  | (refine step_append_u (w0 := wc) wc.heap.size (by rfl) _ _ 22 31 rfl Try.underlying22 info_u32 (vb) (k + 1) (L.take k ++ [p]) (L.drop k) (A') (no - k) (co - k) rfl rfl (HOb.out) (HRD.out.below HB2.out) (HB2.out) (by first | exact hz2 | (simp; omega)) (by omega) ?_; intro vd w3 hown hB3 hg hat; have HOc := Lib.hid hown; have HB3 := Lib.hid hB3; clear hown hB3 hg hat)
                  | fail))
              all_goals
                have hrow : w3.ownsRow wc.heap.size 31 1 vd (no + 1) (nums .u32 (Tb.ins p L)) := by
                  have h := HOc.out
                  rw [show k + 1 + (no - k) = no + 1 by omega, show L.take k ++ [p] ++ L.drop k = Tb.ins p L from by rw [HINS.out, List.append_assoc]; rfl] at h
                  exact h
                have hform : ∃ gd cd, vd = .slice (some ⟨gd, 0, none⟩) (no + 1) cd ∧ no + 1 ≤ cd := by
                  rcases hrow.2 with ⟨_, h0⟩ | ⟨gd, cd, cur, rfl, _, _, hle, _⟩
                  · omega
                  · exact ⟨gd, cd, rfl, hle⟩
                obtain ⟨gd, cd, rfl, hcd⟩ := hform
                have HROd := Lib.hid (own_reads' hrow)
                have HBXd := Lib.hid ((Mods.of_below HB3.out []).blk HBXc.out (by simp))
                have HBd := Lib.hid (below_then HBc.out (by omega) HB3.out)
                clear hrow
                go_wp2_with fail
                go_roundw
                case rel => exact ⟨i + 1, no + 1, cd, some ⟨gd, 0, none⟩, by omega, by omega, rfl, by go_num, Lib.hid (.inr ⟨gd, rfl, hcd⟩), Lib.hid (by rw [HST.out]; exact HROd.out), HBXd, HBd⟩
                case measure => simp [intOf]; omega
    · obtain rfl : i = n := by omega
      have ht : ps.take i = ps := List.take_of_length_le (by rw [HRR.out.1]; exact Nat.le_refl _)
      rw [ht] at HRO hlen
      subst hlen
      go_wp2_with fail
      refine bodyPost_ret (results_two rfl _ _ _) rfl ?_
      exact ⟨by rw [HX.out]; exact HBr.out, .inr ⟨hno, A, co, rfl, HRO.out⟩⟩
end Go.Proofs.Ytmgkdlkjcncniaa
