/- lens.(*source).simple, of any bits. -/
import Derived.Test.YtbljoihnjhllhaaLensFlat20
import Derived.Test.YtbljoihnjhllhaaLensFlat19
import Derived.DeepKeys
namespace Go.Proofs.Ytbljoihnjhllhaa
open Go.RowKit
open Go.Proofs.YtbljoihnjhllhaaW.PrintWords
open Srt

/-- What the rounds over the list know. -/
structure LayX (w wr : World) (S g G base k : Nat) (L : List Int) (A : Option Addr) (bs : List Int) (p : Nat) (AL : Option Addr) (n j : Nat) (out : List Int) : Prop where
  fin : layS (zeros k) L = layS out (L.drop j)
  len : out.length = k
  own : wr.ownsRow base 3 1 (.slice (some ⟨G, 0, none⟩) k k) k (nums .i64 out)
  src : Srx wr S g A bs p 0
  reads : ReadsInt wr .i64 AL n L
  mods : Mods [S, g, G] w wr
set_option maxHeartbeats 8000000 in
theorem simple_g (S g G base : Nat) (A : Option Addr) (bs : List Int) (p k : Nat) (w : World) (h : Srx w S g A bs p 0)
    (hG : G ≠ S ∧ G ≠ g ∧ ∀ ad, A = some ad → ad.block ≠ G) (hGw : G < w.heap.size) (hAw : ∀ ad, A = some ad → ad.block < w.heap.size) (hO : w.ownsRow base 3 1 (.slice (some ⟨G, 0, none⟩) k k) k (nums .i64 (zeros k))) (_hk : k ≤ 4096) :
    Calls Try.prog 30 #[.pointer (some ⟨S, 0, none⟩), .slice (some ⟨G, 0, none⟩) k k] w fun en w' => en = .returned (.tuple #[]) ∧ ∃ out p' e', w'.ownsRow base 3 1 (.slice (some ⟨G, 0, none⟩) k k) k (nums .i64 out) ∧ out.length = k ∧
      Srx w' S g A bs p' e' ∧ Mods [S, g, G] w w' ∧ simpleF bs p k = resE e' out p' := by
  have H := Lib.hid h; have HO := Lib.hid hO; have HG := Lib.hid hG; have HAW := Lib.hid hAw
  have hSw : S < w.heap.size := blk_lt h.blk
  have hgw : g < w.heap.size := by obtain ⟨q, o, hr, _⟩ := h.rdr; exact hr.lt
  clear h hO hG hAw
  go_enter Try.func30, Try.ntmps30
  go_wp2_with fail
  refine (num_any S g A bs p 0 1 w H.out (by omega) (by omega)).mono ?_
  rintro en w1 ⟨v1, p1, e1, rfl, hS1, hM1, hN1, hv1a, hv1b⟩
  have H1 := Lib.hid hS1; have HM1 := Lib.hid hM1; have HN1 := Lib.hid hN1
  clear hS1 hM1 hN1
  go_wp2_with fail
  refine (num_any S g A bs p1 e1 1 w1 H1.out (by omega) (by omega)).mono ?_
  rintro en w2 ⟨v2, p2, e2, rfl, hS2, hM2, hN2, hv2a, hv2b⟩
  have H2 := Lib.hid hS2; have HM2 := Lib.hid (HM1.out.trans hM2); have HN2 := Lib.hid hN2
  clear hS2 hM2 hN2
  by_cases h2 : v2 = 1
  · have d2 : (v2 == 1) = true := beq_iff_eq.2 h2
    go_wp2_with fail
    refine (num_any S g A bs p2 e2 8 w2 H2.out (by omega) (by omega)).mono ?_
    rintro en w3 ⟨v3, p3, e3, rfl, hS3, hM3, hN3, hv3a, hv3b⟩
    have H3 := Lib.hid hS3; have HM3 := Lib.hid (HM2.out.trans hM3); have HN3 := Lib.hid hN3
    have hv3 : v3 < 256 := by exact hv3b
    have hz3 := HM3.out.size
    have hO3 := Lib.hid (own_lit w3 (w3.heap.size) 3 .i64 [v3] (Nat.le_refl _) (by simp))
    clear hS3 hM3 hN3
    by_cases h1 : v1 = 1
    · have d1 : (v1 == 1) = true := beq_iff_eq.2 h1
      have hm4 : Mods [] w3 (w3.alloc (.cells #[.int .i64 v3] 3)) := (Mods.refl _ _).alloc _
      have HS4 := Lib.hid (H3.out.mods hm4 (by simp) (by simp) (by simp))
      have HM4 := Lib.hid (HM3.out.trans (hm4.mono (by simp)))
      clear hm4
      go_wp2_with fail
      refine (num_any S g A bs p3 e3 8 _ HS4.out (by omega) (by omega)).mono ?_
      rintro en w5 ⟨v4, p4, e4, rfl, hS5, hM5, hN5, hv4a, hv4b⟩
      have HS5 := Lib.hid hS5; have HM5 := Lib.hid (HM4.out.trans hM5); have HN5 := Lib.hid hN5
      have HO5 := Lib.hid (own_mods hO3.out hM5 (by simp; constructor <;> omega))
      have hz5 : w3.heap.size ≤ w5.heap.size := by have := hM5.size; simp at this; omega
      have hv4 : v4 < 256 := hv4b
      clear hS5 hM5 hO3 hN5
      go_wp2_with (at_builtin; refine print_append_num w3.heap.size rfl _ _ 22 3 .i64 8 rfl Try.underlying22 info_int (by decide) (.slice (some ⟨w3.heap.size, 0, none⟩) 1 1) [v3] v4 rfl rfl HO5.out (show Below w3.heap.size w5 w5 from Below.refl _ _) hz5 (by simp) ?_)
      intro vv wL hown hB hg hat
      obtain ⟨A1, c1, rfl, hr1⟩ := own_reads hown
      have hat2 : ∀ ad, A1 = some ad → w.heap.size ≤ ad.block := fun ad h => by
        have := own_base hown ad.block (by rw [h]; rfl)
        omega
      have hmL : Mods [w3.heap.size] w5 wL := Mods.grown (Mods.refl _ _) hg (fun k hk => by simp [Value.ownBlock] at hk; simp [hk])
      have HML := Lib.hid (show Mods [S, g, G] w wL from Mods.trans_new (HM5.out.mono (by simp)) hmL (by simp; omega))
      have HLB := Lib.hid hat2
      have HRL := Lib.hid (show ReadsInt wL .i64 A1 2 [v3, v4] from hr1)
      have HSL := Lib.hid (HS5.out.mods hmL (by simp; omega) (by simp; omega) (fun ad h => by have h1 := HAW.out ad h; simp; omega))
      have HOL := Lib.hid (own_mods (own_mods HO.out HM5.out (by have := HG.out; simp; exact ⟨this.1, this.2.1⟩)) hmL (by simp; omega))
      have HSN := Lib.hid (show SimN bs p v1 v2 v3 v4 8 p4 e4 from ⟨⟨p1, p2, p3, e1, e2, e3, HN1.out, HN2.out, HN3.out, .inl ⟨h1, HN5.out⟩⟩, (by rw [if_pos h2])⟩)
      have HTW : Hid (twoS (decide (v1 = 1)) v3 v4 = [v3, v4]) := Lib.hid (by rw [decide_eq_true h1]; rfl)
      have hbnd : Hid (∀ x ∈ [v3, v4], 0 ≤ x ∧ x < 256) := Lib.hid (by intro x hx; simp at hx; rcases hx with rfl | rfl <;> constructor <;> assumption)
      obtain ⟨LL, hLL⟩ : ∃ LL, [v3, v4] = LL := ⟨_, rfl⟩
      rw [hLL] at HTW hbnd HRL
      obtain ⟨pe, hpe⟩ : ∃ pe, p4 = pe := ⟨_, rfl⟩
      obtain ⟨ee, hee⟩ : ∃ ee, e4 = ee := ⟨_, rfl⟩
      rw [hpe, hee] at HSN HSL
      clear hown hB hg hat hr1 hat2 hmL HO5 HM5 HS5 HM4 HS4 hLL hpe hee
      obtain ⟨AL, hAL⟩ : ∃ AL : Option Addr, AL = A1 := ⟨_, rfl⟩
      subst hAL
      go_wp2_with fail
      obtain ⟨wo, hwo⟩ : ∃ wo : World, wo = wL := ⟨_, rfl⟩
      subst hwo
      by_cases he : ee = 0
      · subst he
        have HGD := Lib.hid (HSN.out.good k rfl)
        rw [HTW.out] at HGD
        clear HSN HTW
        go_loopw [9, 29] (fun x y wr => ∃ (j : Nat) (out : List Int), y = .int .i64 j ∧ j ≤ 2 ∧ Hid (LayX w wr S g G base k LL A bs pe AL 2 j out)) (fun x y _ => 2 - (intOf y).toNat)
        case atStart => exact ⟨0, zeros k, rfl, by omega, ⟨rfl, by simp [zeros], HOL.out, HSL.out, HRL.out, HML.out⟩⟩
        case round =>
          obtain ⟨j, out, rfl, hj, HLay⟩ := hrel
          have hxl : Hid (LL.length = 2) := HRL.out.1
          by_cases hlt : j < 2
          · obtain ⟨x, hx⟩ : ∃ x, rd LL (j : Int) = x := ⟨_, rfl⟩
            have hxb : 0 ≤ x ∧ x < 256 := by rw [← hx]; exact hbnd.out _ (rd_mem (by rw [hxl.out]; omega))
            obtain ⟨ad, hA, hcell⟩ := ReadsInt.at_ HLay.out.reads (j : Int) (by omega) (by omega)
            rw [Int.toNat_natCast, hx] at hcell
            have hAL := HLB.out ad hA
            subst hA
            have hdrop := Lib.hid (rd_drop (xs := LL) (j := j) (by rw [hxl.out]; omega))
            have HX := Lib.hid hx
            have hb1 := HLay.out.src.blk
            have hs0 : wr.cell? ⟨S, 0, none⟩ = some (.pointer (some ⟨g, 0, none⟩)) := by rw [cell_blk hb1]; rfl
            have hs1 : wr.cell? ⟨S, 1, none⟩ = some (.int .i64 0) := by rw [cell_blk hb1]; rfl
            have hsf := free_blk hb1 1
            have hol := Lib.hid HLay.out.len
            have hlay : Hid (layS (zeros k) LL = if x < out.length ∧ rd out x = 0 then layS (out.set x.toNat 1) (LL.drop (j + 1)) else (out, false)) := Lib.hid (by rw [HLay.out.fin, hdrop.out, HX.out]; rfl)
            clear hx hb1
            obtain ⟨xn, rfl⟩ := Int.eq_ofNat_of_zero_le hxb.1
            rw [Int.toNat_natCast] at hlay
            by_cases hxk : xn < k
            · obtain ⟨hc1, hf1⟩ := own_at HLay.out.own (xn : Int) (by omega) (by omega)
              rw [Int.toNat_natCast] at hc1 hf1
              by_cases hz : rd out (xn : Int) = 0
              · have hzb : (rd out (xn : Int) != 0) = false := by simp [hz]
                have HN := Lib.hid (show layS (zeros k) LL = layS (out.set xn 1) (LL.drop (j + 1)) from by rw [hlay.out, if_pos ⟨by rw [hol.out]; omega, hz⟩])
                clear hz
                generalize rd out (xn : Int) = z at *
                go_wp2_with fail
                go_roundw
                case rel =>
                  have hm : Mods [G] wr (wr.setCell ⟨G, xn, none⟩ (.int .i64 1)) := (Mods.refl _ _).setCell (by simp) _
                  have ho := (own_store HLay.out.own (xn : Int) 1).1
                  rw [Int.toNat_natCast] at ho
                  have hnew : LayX w (wr.setCell ⟨G, xn, none⟩ (.int .i64 1)) S g G base k LL A bs pe (some ad) 2 (j + 1) (out.set xn 1) := ⟨HN.out, by rw [List.length_set]; exact hol.out, ho, HLay.out.src.mods hm (by simpa using HG.out.1.symm) (by simpa using HG.out.2.1.symm) (fun ad h => by simpa using HG.out.2.2 ad h), ReadsInt.mods HLay.out.reads hm (fun ad h => by have := HLB.out ad h; simp; omega), HLay.out.mods.trans (hm.mono (by simp))⟩
                  first | exact ⟨j + 1, out.set xn 1, by go_num, by omega, hnew⟩ | ((repeat apply Exists.intro); exact ⟨⟨j + 1, out.set xn 1, by go_num, by omega, hnew⟩, rfl⟩)
                case measure => simp [intOf]; omega
              · have hzb : (rd out (xn : Int) != 0) = true := by simp [hz]
                have HN := Lib.hid (show layS (zeros k) LL = (out, false) from by rw [hlay.out, if_neg (fun h => hz h.2)])
                clear hz
                generalize rd out (xn : Int) = z at *
                go_wp2_with fail
                refine (fail_any S g A bs pe 0 3 wr HLay.out.src).mono ?_
                rintro en w' ⟨rfl, hS', hM'⟩
                go_wp2_with fail
                refine bodyPost_ret (results_none rfl _ _ _) rfl ?_
                exact ⟨rfl, out, pe, 3, own_mods HLay.out.own hM' (by simpa using HG.out.1), hol.out, hS', HLay.out.mods.trans (hM'.mono (by simp)), by rw [HGD.out, HN.out]; rfl⟩
            · have HN := Lib.hid (show layS (zeros k) LL = (out, false) from by rw [hlay.out, if_neg (fun h => hxk (by have := h.1; rw [hol.out] at this; omega))])
              go_wp2_with fail
              refine (fail_any S g A bs pe 0 3 wr HLay.out.src).mono ?_
              rintro en w' ⟨rfl, hS', hM'⟩
              go_wp2_with fail
              refine bodyPost_ret (results_none rfl _ _ _) rfl ?_
              exact ⟨rfl, out, pe, 3, own_mods HLay.out.own hM' (by simpa using HG.out.1), hol.out, hS', HLay.out.mods.trans (hM'.mono (by simp)), by rw [HGD.out, HN.out]; rfl⟩
          · have HN := Lib.hid (show layS (zeros k) LL = (out, true) from by rw [HLay.out.fin, List.drop_of_length_le (by rw [hxl.out]; omega)]; rfl)
            go_wp2_with fail
            go_end0
            exact ⟨rfl, out, pe, 0, HLay.out.own, HLay.out.len, HLay.out.src, HLay.out.mods, by rw [HGD.out, HN.out]; rfl⟩
      · obtain ⟨hb1, hb2⟩ := HSN.out.bad k he
        subst hb1
        have HBD := Lib.hid hb2
        clear HSN HTW hb2
        obtain ⟨ad, hA, hcell⟩ := ReadsInt.at_ HRL.out 0 (by omega) (by omega)
        subst hA
        rw [show ((0 : Int)).toNat = 0 from rfl] at hcell
        have hcell2 : wo.cell? ad = some (.int .i64 (rd LL 0)) := by simpa [Addr.add] using hcell
        generalize rd LL 0 = x0 at *
        have hb1 := HSL.out.blk
        have hs1 : wo.cell? ⟨S, 1, none⟩ = some (.int .i64 2) := by rw [cell_blk hb1]; rfl
        clear hcell hb1
        go_loopw [9, 29] (fun x y wr => y = .int .i64 0 ∧ wr = wo) (fun x y _ => 0)
        case atStart => exact ⟨rfl, rfl⟩
        case round =>
          obtain ⟨rfl, rfl⟩ := hrel
          go_wp2_with fail
          refine bodyPost_ret (results_none rfl _ _ _) rfl ?_
          exact ⟨rfl, zeros k, pe, 2, HOL.out, by simp [zeros], HSL.out, HML.out, by rw [HBD.out]; rfl⟩
    · have d1 : (v1 == 1) = false := beq_eq_false_iff_ne.2 h1
      go_wp2_with fail
      have hm4 : Mods [S, g, G] w3 (w3.alloc (.cells #[.int .i64 v3] 3)) := (Mods.refl _ _).alloc _
      obtain ⟨wL, hwL⟩ : ∃ wL, w3.alloc (.cells #[.int .i64 v3] 3) = wL := ⟨_, rfl⟩
      have hr3 := hO3.out
      obtain ⟨A1, c1, he1, hr4⟩ := own_reads hr3
      cases he1
      obtain ⟨AL, hAL⟩ : ∃ AL : Option Addr, AL = some ⟨w3.heap.size, 0, none⟩ := ⟨_, rfl⟩
      have HML := Lib.hid (show Mods [S, g, G] w wL from by rw [← hwL]; exact (HM3.out.mono (by simp)).trans hm4)
      have HLB := Lib.hid (show ∀ ad, AL = some ad → w.heap.size ≤ ad.block from fun ad h => by rw [hAL] at h; cases h; exact hz3)
      have HRL := Lib.hid (show ReadsInt wL .i64 AL 1 [v3] from by rw [← hwL, hAL]; exact hr4)
      have HSL := Lib.hid (show Srx wL S g A bs p3 e3 from by rw [← hwL]; exact H3.out.mods (T := []) ((Mods.refl _ _).alloc _) (by simp) (by simp) (by simp))
      have HOL := Lib.hid (show wL.ownsRow base 3 1 (.slice (some ⟨G, 0, none⟩) k k) k (nums .i64 (zeros k)) from by
        rw [← hwL]
        exact own_mods HO.out (HM3.out.trans ((Mods.refl _ _).alloc _)) (by have := HG.out; simp; exact ⟨this.1, this.2.1⟩))
      have HSN := Lib.hid (show SimN bs p v1 v2 v3 0 8 p3 e3 from ⟨⟨p1, p2, p3, e1, e2, e3, HN1.out, HN2.out, HN3.out, .inr ⟨h1, rfl, rfl⟩⟩, (by rw [if_pos h2])⟩)
      have HTW : Hid (twoS (decide (v1 = 1)) v3 0 = [v3]) := Lib.hid (by rw [decide_eq_false h1]; rfl)
      have hbnd : Hid (∀ x ∈ [v3], 0 ≤ x ∧ x < 256) := Lib.hid (by intro x hx; simp at hx; subst hx; constructor <;> assumption)
      obtain ⟨LL, hLL⟩ : ∃ LL, [v3] = LL := ⟨_, rfl⟩
      rw [hLL] at HTW hbnd HRL
      obtain ⟨pe, hpe⟩ : ∃ pe, p3 = pe := ⟨_, rfl⟩
      obtain ⟨ee, hee⟩ : ∃ ee, e3 = ee := ⟨_, rfl⟩
      rw [hpe, hee] at HSN HSL
      rw [hwL, ← hAL]
      clear hm4 hwL hr3 hr4 hAL hO3 hLL hpe hee
      obtain ⟨wo, hwo⟩ : ∃ wo : World, wo = wL := ⟨_, rfl⟩
      subst hwo
      by_cases he : ee = 0
      · subst he
        have HGD := Lib.hid (HSN.out.good k rfl)
        rw [HTW.out] at HGD
        clear HSN HTW
        go_loopw [9, 29] (fun x y wr => ∃ (j : Nat) (out : List Int), y = .int .i64 j ∧ j ≤ 1 ∧ Hid (LayX w wr S g G base k LL A bs pe AL 1 j out)) (fun x y _ => 1 - (intOf y).toNat)
        case atStart => exact ⟨0, zeros k, rfl, by omega, ⟨rfl, by simp [zeros], HOL.out, HSL.out, HRL.out, HML.out⟩⟩
        case round =>
          obtain ⟨j, out, rfl, hj, HLay⟩ := hrel
          have hxl : Hid (LL.length = 1) := HRL.out.1
          by_cases hlt : j < 1
          · obtain ⟨x, hx⟩ : ∃ x, rd LL (j : Int) = x := ⟨_, rfl⟩
            have hxb : 0 ≤ x ∧ x < 256 := by rw [← hx]; exact hbnd.out _ (rd_mem (by rw [hxl.out]; omega))
            obtain ⟨ad, hA, hcell⟩ := ReadsInt.at_ HLay.out.reads (j : Int) (by omega) (by omega)
            rw [Int.toNat_natCast, hx] at hcell
            have hAL := HLB.out ad hA
            subst hA
            have hdrop := Lib.hid (rd_drop (xs := LL) (j := j) (by rw [hxl.out]; omega))
            have HX := Lib.hid hx
            have hb1 := HLay.out.src.blk
            have hs0 : wr.cell? ⟨S, 0, none⟩ = some (.pointer (some ⟨g, 0, none⟩)) := by rw [cell_blk hb1]; rfl
            have hs1 : wr.cell? ⟨S, 1, none⟩ = some (.int .i64 0) := by rw [cell_blk hb1]; rfl
            have hsf := free_blk hb1 1
            have hol := Lib.hid HLay.out.len
            have hlay : Hid (layS (zeros k) LL = if x < out.length ∧ rd out x = 0 then layS (out.set x.toNat 1) (LL.drop (j + 1)) else (out, false)) := Lib.hid (by rw [HLay.out.fin, hdrop.out, HX.out]; rfl)
            clear hx hb1
            obtain ⟨xn, rfl⟩ := Int.eq_ofNat_of_zero_le hxb.1
            rw [Int.toNat_natCast] at hlay
            by_cases hxk : xn < k
            · obtain ⟨hc1, hf1⟩ := own_at HLay.out.own (xn : Int) (by omega) (by omega)
              rw [Int.toNat_natCast] at hc1 hf1
              by_cases hz : rd out (xn : Int) = 0
              · have hzb : (rd out (xn : Int) != 0) = false := by simp [hz]
                have HN := Lib.hid (show layS (zeros k) LL = layS (out.set xn 1) (LL.drop (j + 1)) from by rw [hlay.out, if_pos ⟨by rw [hol.out]; omega, hz⟩])
                clear hz
                generalize rd out (xn : Int) = z at *
                go_wp2_with fail
                go_roundw
                case rel =>
                  have hm : Mods [G] wr (wr.setCell ⟨G, xn, none⟩ (.int .i64 1)) := (Mods.refl _ _).setCell (by simp) _
                  have ho := (own_store HLay.out.own (xn : Int) 1).1
                  rw [Int.toNat_natCast] at ho
                  have hnew : LayX w (wr.setCell ⟨G, xn, none⟩ (.int .i64 1)) S g G base k LL A bs pe (some ad) 1 (j + 1) (out.set xn 1) := ⟨HN.out, by rw [List.length_set]; exact hol.out, ho, HLay.out.src.mods hm (by simpa using HG.out.1.symm) (by simpa using HG.out.2.1.symm) (fun ad h => by simpa using HG.out.2.2 ad h), ReadsInt.mods HLay.out.reads hm (fun ad h => by have := HLB.out ad h; simp; omega), HLay.out.mods.trans (hm.mono (by simp))⟩
                  first | exact ⟨j + 1, out.set xn 1, by go_num, by omega, hnew⟩ | ((repeat apply Exists.intro); exact ⟨⟨j + 1, out.set xn 1, by go_num, by omega, hnew⟩, rfl⟩)
                case measure => simp [intOf]; omega
              · have hzb : (rd out (xn : Int) != 0) = true := by simp [hz]
                have HN := Lib.hid (show layS (zeros k) LL = (out, false) from by rw [hlay.out, if_neg (fun h => hz h.2)])
                clear hz
                generalize rd out (xn : Int) = z at *
                go_wp2_with fail
                refine (fail_any S g A bs pe 0 3 wr HLay.out.src).mono ?_
                rintro en w' ⟨rfl, hS', hM'⟩
                go_wp2_with fail
                refine bodyPost_ret (results_none rfl _ _ _) rfl ?_
                exact ⟨rfl, out, pe, 3, own_mods HLay.out.own hM' (by simpa using HG.out.1), hol.out, hS', HLay.out.mods.trans (hM'.mono (by simp)), by rw [HGD.out, HN.out]; rfl⟩
            · have HN := Lib.hid (show layS (zeros k) LL = (out, false) from by rw [hlay.out, if_neg (fun h => hxk (by have := h.1; rw [hol.out] at this; omega))])
              go_wp2_with fail
              refine (fail_any S g A bs pe 0 3 wr HLay.out.src).mono ?_
              rintro en w' ⟨rfl, hS', hM'⟩
              go_wp2_with fail
              refine bodyPost_ret (results_none rfl _ _ _) rfl ?_
              exact ⟨rfl, out, pe, 3, own_mods HLay.out.own hM' (by simpa using HG.out.1), hol.out, hS', HLay.out.mods.trans (hM'.mono (by simp)), by rw [HGD.out, HN.out]; rfl⟩
          · have HN := Lib.hid (show layS (zeros k) LL = (out, true) from by rw [HLay.out.fin, List.drop_of_length_le (by rw [hxl.out]; omega)]; rfl)
            go_wp2_with fail
            go_end0
            exact ⟨rfl, out, pe, 0, HLay.out.own, HLay.out.len, HLay.out.src, HLay.out.mods, by rw [HGD.out, HN.out]; rfl⟩
      · obtain ⟨hb1, hb2⟩ := HSN.out.bad k he
        subst hb1
        have HBD := Lib.hid hb2
        clear HSN HTW hb2
        obtain ⟨ad, hA, hcell⟩ := ReadsInt.at_ HRL.out 0 (by omega) (by omega)
        subst hA
        rw [show ((0 : Int)).toNat = 0 from rfl] at hcell
        have hcell2 : wo.cell? ad = some (.int .i64 (rd LL 0)) := by simpa [Addr.add] using hcell
        generalize rd LL 0 = x0 at *
        have hb1 := HSL.out.blk
        have hs1 : wo.cell? ⟨S, 1, none⟩ = some (.int .i64 2) := by rw [cell_blk hb1]; rfl
        clear hcell hb1
        go_loopw [9, 29] (fun x y wr => y = .int .i64 0 ∧ wr = wo) (fun x y _ => 0)
        case atStart => exact ⟨rfl, rfl⟩
        case round =>
          obtain ⟨rfl, rfl⟩ := hrel
          go_wp2_with fail
          refine bodyPost_ret (results_none rfl _ _ _) rfl ?_
          exact ⟨rfl, zeros k, pe, 2, HOL.out, by simp [zeros], HSL.out, HML.out, by rw [HBD.out]; rfl⟩
  · have d2 : (v2 == 1) = false := beq_eq_false_iff_ne.2 h2
    go_wp2_with fail
    refine (num_any S g A bs p2 e2 1 w2 H2.out (by omega) (by omega)).mono ?_
    rintro en w3 ⟨v3, p3, e3, rfl, hS3, hM3, hN3, hv3a, hv3b⟩
    have H3 := Lib.hid hS3; have HM3 := Lib.hid (HM2.out.trans hM3); have HN3 := Lib.hid hN3
    have hv3 : v3 < 256 := by omega
    have hz3 := HM3.out.size
    have hO3 := Lib.hid (own_lit w3 (w3.heap.size) 3 .i64 [v3] (Nat.le_refl _) (by simp))
    clear hS3 hM3 hN3
    by_cases h1 : v1 = 1
    · have d1 : (v1 == 1) = true := beq_iff_eq.2 h1
      have hm4 : Mods [] w3 (w3.alloc (.cells #[.int .i64 v3] 3)) := (Mods.refl _ _).alloc _
      have HS4 := Lib.hid (H3.out.mods hm4 (by simp) (by simp) (by simp))
      have HM4 := Lib.hid (HM3.out.trans (hm4.mono (by simp)))
      clear hm4
      go_wp2_with fail
      refine (num_any S g A bs p3 e3 8 _ HS4.out (by omega) (by omega)).mono ?_
      rintro en w5 ⟨v4, p4, e4, rfl, hS5, hM5, hN5, hv4a, hv4b⟩
      have HS5 := Lib.hid hS5; have HM5 := Lib.hid (HM4.out.trans hM5); have HN5 := Lib.hid hN5
      have HO5 := Lib.hid (own_mods hO3.out hM5 (by simp; constructor <;> omega))
      have hz5 : w3.heap.size ≤ w5.heap.size := by have := hM5.size; simp at this; omega
      have hv4 : v4 < 256 := hv4b
      clear hS5 hM5 hO3 hN5
      go_wp2_with (at_builtin; refine print_append_num w3.heap.size rfl _ _ 22 3 .i64 8 rfl Try.underlying22 info_int (by decide) (.slice (some ⟨w3.heap.size, 0, none⟩) 1 1) [v3] v4 rfl rfl HO5.out (show Below w3.heap.size w5 w5 from Below.refl _ _) hz5 (by simp) ?_)
      intro vv wL hown hB hg hat
      obtain ⟨A1, c1, rfl, hr1⟩ := own_reads hown
      have hat2 : ∀ ad, A1 = some ad → w.heap.size ≤ ad.block := fun ad h => by
        have := own_base hown ad.block (by rw [h]; rfl)
        omega
      have hmL : Mods [w3.heap.size] w5 wL := Mods.grown (Mods.refl _ _) hg (fun k hk => by simp [Value.ownBlock] at hk; simp [hk])
      have HML := Lib.hid (show Mods [S, g, G] w wL from Mods.trans_new (HM5.out.mono (by simp)) hmL (by simp; omega))
      have HLB := Lib.hid hat2
      have HRL := Lib.hid (show ReadsInt wL .i64 A1 2 [v3, v4] from hr1)
      have HSL := Lib.hid (HS5.out.mods hmL (by simp; omega) (by simp; omega) (fun ad h => by have h1 := HAW.out ad h; simp; omega))
      have HOL := Lib.hid (own_mods (own_mods HO.out HM5.out (by have := HG.out; simp; exact ⟨this.1, this.2.1⟩)) hmL (by simp; omega))
      have HSN := Lib.hid (show SimN bs p v1 v2 v3 v4 1 p4 e4 from ⟨⟨p1, p2, p3, e1, e2, e3, HN1.out, HN2.out, HN3.out, .inl ⟨h1, HN5.out⟩⟩, (by rw [if_neg h2])⟩)
      have HTW : Hid (twoS (decide (v1 = 1)) v3 v4 = [v3, v4]) := Lib.hid (by rw [decide_eq_true h1]; rfl)
      have hbnd : Hid (∀ x ∈ [v3, v4], 0 ≤ x ∧ x < 256) := Lib.hid (by intro x hx; simp at hx; rcases hx with rfl | rfl <;> constructor <;> assumption)
      obtain ⟨LL, hLL⟩ : ∃ LL, [v3, v4] = LL := ⟨_, rfl⟩
      rw [hLL] at HTW hbnd HRL
      obtain ⟨pe, hpe⟩ : ∃ pe, p4 = pe := ⟨_, rfl⟩
      obtain ⟨ee, hee⟩ : ∃ ee, e4 = ee := ⟨_, rfl⟩
      rw [hpe, hee] at HSN HSL
      clear hown hB hg hat hr1 hat2 hmL HO5 HM5 HS5 HM4 HS4 hLL hpe hee
      obtain ⟨AL, hAL⟩ : ∃ AL : Option Addr, AL = A1 := ⟨_, rfl⟩
      subst hAL
      go_wp2_with fail
      obtain ⟨wo, hwo⟩ : ∃ wo : World, wo = wL := ⟨_, rfl⟩
      subst hwo
      by_cases he : ee = 0
      · subst he
        have HGD := Lib.hid (HSN.out.good k rfl)
        rw [HTW.out] at HGD
        clear HSN HTW
        go_loopw [9, 29] (fun x y wr => ∃ (j : Nat) (out : List Int), y = .int .i64 j ∧ j ≤ 2 ∧ Hid (LayX w wr S g G base k LL A bs pe AL 2 j out)) (fun x y _ => 2 - (intOf y).toNat)
        case atStart => exact ⟨0, zeros k, rfl, by omega, ⟨rfl, by simp [zeros], HOL.out, HSL.out, HRL.out, HML.out⟩⟩
        case round =>
          obtain ⟨j, out, rfl, hj, HLay⟩ := hrel
          have hxl : Hid (LL.length = 2) := HRL.out.1
          by_cases hlt : j < 2
          · obtain ⟨x, hx⟩ : ∃ x, rd LL (j : Int) = x := ⟨_, rfl⟩
            have hxb : 0 ≤ x ∧ x < 256 := by rw [← hx]; exact hbnd.out _ (rd_mem (by rw [hxl.out]; omega))
            obtain ⟨ad, hA, hcell⟩ := ReadsInt.at_ HLay.out.reads (j : Int) (by omega) (by omega)
            rw [Int.toNat_natCast, hx] at hcell
            have hAL := HLB.out ad hA
            subst hA
            have hdrop := Lib.hid (rd_drop (xs := LL) (j := j) (by rw [hxl.out]; omega))
            have HX := Lib.hid hx
            have hb1 := HLay.out.src.blk
            have hs0 : wr.cell? ⟨S, 0, none⟩ = some (.pointer (some ⟨g, 0, none⟩)) := by rw [cell_blk hb1]; rfl
            have hs1 : wr.cell? ⟨S, 1, none⟩ = some (.int .i64 0) := by rw [cell_blk hb1]; rfl
            have hsf := free_blk hb1 1
            have hol := Lib.hid HLay.out.len
            have hlay : Hid (layS (zeros k) LL = if x < out.length ∧ rd out x = 0 then layS (out.set x.toNat 1) (LL.drop (j + 1)) else (out, false)) := Lib.hid (by rw [HLay.out.fin, hdrop.out, HX.out]; rfl)
            clear hx hb1
            obtain ⟨xn, rfl⟩ := Int.eq_ofNat_of_zero_le hxb.1
            rw [Int.toNat_natCast] at hlay
            by_cases hxk : xn < k
            · obtain ⟨hc1, hf1⟩ := own_at HLay.out.own (xn : Int) (by omega) (by omega)
              rw [Int.toNat_natCast] at hc1 hf1
              by_cases hz : rd out (xn : Int) = 0
              · have hzb : (rd out (xn : Int) != 0) = false := by simp [hz]
                have HN := Lib.hid (show layS (zeros k) LL = layS (out.set xn 1) (LL.drop (j + 1)) from by rw [hlay.out, if_pos ⟨by rw [hol.out]; omega, hz⟩])
                clear hz
                generalize rd out (xn : Int) = z at *
                go_wp2_with fail
                go_roundw
                case rel =>
                  have hm : Mods [G] wr (wr.setCell ⟨G, xn, none⟩ (.int .i64 1)) := (Mods.refl _ _).setCell (by simp) _
                  have ho := (own_store HLay.out.own (xn : Int) 1).1
                  rw [Int.toNat_natCast] at ho
                  have hnew : LayX w (wr.setCell ⟨G, xn, none⟩ (.int .i64 1)) S g G base k LL A bs pe (some ad) 2 (j + 1) (out.set xn 1) := ⟨HN.out, by rw [List.length_set]; exact hol.out, ho, HLay.out.src.mods hm (by simpa using HG.out.1.symm) (by simpa using HG.out.2.1.symm) (fun ad h => by simpa using HG.out.2.2 ad h), ReadsInt.mods HLay.out.reads hm (fun ad h => by have := HLB.out ad h; simp; omega), HLay.out.mods.trans (hm.mono (by simp))⟩
                  first | exact ⟨j + 1, out.set xn 1, by go_num, by omega, hnew⟩ | ((repeat apply Exists.intro); exact ⟨⟨j + 1, out.set xn 1, by go_num, by omega, hnew⟩, rfl⟩)
                case measure => simp [intOf]; omega
              · have hzb : (rd out (xn : Int) != 0) = true := by simp [hz]
                have HN := Lib.hid (show layS (zeros k) LL = (out, false) from by rw [hlay.out, if_neg (fun h => hz h.2)])
                clear hz
                generalize rd out (xn : Int) = z at *
                go_wp2_with fail
                refine (fail_any S g A bs pe 0 3 wr HLay.out.src).mono ?_
                rintro en w' ⟨rfl, hS', hM'⟩
                go_wp2_with fail
                refine bodyPost_ret (results_none rfl _ _ _) rfl ?_
                exact ⟨rfl, out, pe, 3, own_mods HLay.out.own hM' (by simpa using HG.out.1), hol.out, hS', HLay.out.mods.trans (hM'.mono (by simp)), by rw [HGD.out, HN.out]; rfl⟩
            · have HN := Lib.hid (show layS (zeros k) LL = (out, false) from by rw [hlay.out, if_neg (fun h => hxk (by have := h.1; rw [hol.out] at this; omega))])
              go_wp2_with fail
              refine (fail_any S g A bs pe 0 3 wr HLay.out.src).mono ?_
              rintro en w' ⟨rfl, hS', hM'⟩
              go_wp2_with fail
              refine bodyPost_ret (results_none rfl _ _ _) rfl ?_
              exact ⟨rfl, out, pe, 3, own_mods HLay.out.own hM' (by simpa using HG.out.1), hol.out, hS', HLay.out.mods.trans (hM'.mono (by simp)), by rw [HGD.out, HN.out]; rfl⟩
          · have HN := Lib.hid (show layS (zeros k) LL = (out, true) from by rw [HLay.out.fin, List.drop_of_length_le (by rw [hxl.out]; omega)]; rfl)
            go_wp2_with fail
            go_end0
            exact ⟨rfl, out, pe, 0, HLay.out.own, HLay.out.len, HLay.out.src, HLay.out.mods, by rw [HGD.out, HN.out]; rfl⟩
      · obtain ⟨hb1, hb2⟩ := HSN.out.bad k he
        subst hb1
        have HBD := Lib.hid hb2
        clear HSN HTW hb2
        obtain ⟨ad, hA, hcell⟩ := ReadsInt.at_ HRL.out 0 (by omega) (by omega)
        subst hA
        rw [show ((0 : Int)).toNat = 0 from rfl] at hcell
        have hcell2 : wo.cell? ad = some (.int .i64 (rd LL 0)) := by simpa [Addr.add] using hcell
        generalize rd LL 0 = x0 at *
        have hb1 := HSL.out.blk
        have hs1 : wo.cell? ⟨S, 1, none⟩ = some (.int .i64 2) := by rw [cell_blk hb1]; rfl
        clear hcell hb1
        go_loopw [9, 29] (fun x y wr => y = .int .i64 0 ∧ wr = wo) (fun x y _ => 0)
        case atStart => exact ⟨rfl, rfl⟩
        case round =>
          obtain ⟨rfl, rfl⟩ := hrel
          go_wp2_with fail
          refine bodyPost_ret (results_none rfl _ _ _) rfl ?_
          exact ⟨rfl, zeros k, pe, 2, HOL.out, by simp [zeros], HSL.out, HML.out, by rw [HBD.out]; rfl⟩
    · have d1 : (v1 == 1) = false := beq_eq_false_iff_ne.2 h1
      go_wp2_with fail
      have hm4 : Mods [S, g, G] w3 (w3.alloc (.cells #[.int .i64 v3] 3)) := (Mods.refl _ _).alloc _
      obtain ⟨wL, hwL⟩ : ∃ wL, w3.alloc (.cells #[.int .i64 v3] 3) = wL := ⟨_, rfl⟩
      have hr3 := hO3.out
      obtain ⟨A1, c1, he1, hr4⟩ := own_reads hr3
      cases he1
      obtain ⟨AL, hAL⟩ : ∃ AL : Option Addr, AL = some ⟨w3.heap.size, 0, none⟩ := ⟨_, rfl⟩
      have HML := Lib.hid (show Mods [S, g, G] w wL from by rw [← hwL]; exact (HM3.out.mono (by simp)).trans hm4)
      have HLB := Lib.hid (show ∀ ad, AL = some ad → w.heap.size ≤ ad.block from fun ad h => by rw [hAL] at h; cases h; exact hz3)
      have HRL := Lib.hid (show ReadsInt wL .i64 AL 1 [v3] from by rw [← hwL, hAL]; exact hr4)
      have HSL := Lib.hid (show Srx wL S g A bs p3 e3 from by rw [← hwL]; exact H3.out.mods (T := []) ((Mods.refl _ _).alloc _) (by simp) (by simp) (by simp))
      have HOL := Lib.hid (show wL.ownsRow base 3 1 (.slice (some ⟨G, 0, none⟩) k k) k (nums .i64 (zeros k)) from by
        rw [← hwL]
        exact own_mods HO.out (HM3.out.trans ((Mods.refl _ _).alloc _)) (by have := HG.out; simp; exact ⟨this.1, this.2.1⟩))
      have HSN := Lib.hid (show SimN bs p v1 v2 v3 0 1 p3 e3 from ⟨⟨p1, p2, p3, e1, e2, e3, HN1.out, HN2.out, HN3.out, .inr ⟨h1, rfl, rfl⟩⟩, (by rw [if_neg h2])⟩)
      have HTW : Hid (twoS (decide (v1 = 1)) v3 0 = [v3]) := Lib.hid (by rw [decide_eq_false h1]; rfl)
      have hbnd : Hid (∀ x ∈ [v3], 0 ≤ x ∧ x < 256) := Lib.hid (by intro x hx; simp at hx; subst hx; constructor <;> assumption)
      obtain ⟨LL, hLL⟩ : ∃ LL, [v3] = LL := ⟨_, rfl⟩
      rw [hLL] at HTW hbnd HRL
      obtain ⟨pe, hpe⟩ : ∃ pe, p3 = pe := ⟨_, rfl⟩
      obtain ⟨ee, hee⟩ : ∃ ee, e3 = ee := ⟨_, rfl⟩
      rw [hpe, hee] at HSN HSL
      rw [hwL, ← hAL]
      clear hm4 hwL hr3 hr4 hAL hO3 hLL hpe hee
      obtain ⟨wo, hwo⟩ : ∃ wo : World, wo = wL := ⟨_, rfl⟩
      subst hwo
      by_cases he : ee = 0
      · subst he
        have HGD := Lib.hid (HSN.out.good k rfl)
        rw [HTW.out] at HGD
        clear HSN HTW
        go_loopw [9, 29] (fun x y wr => ∃ (j : Nat) (out : List Int), y = .int .i64 j ∧ j ≤ 1 ∧ Hid (LayX w wr S g G base k LL A bs pe AL 1 j out)) (fun x y _ => 1 - (intOf y).toNat)
        case atStart => exact ⟨0, zeros k, rfl, by omega, ⟨rfl, by simp [zeros], HOL.out, HSL.out, HRL.out, HML.out⟩⟩
        case round =>
          obtain ⟨j, out, rfl, hj, HLay⟩ := hrel
          have hxl : Hid (LL.length = 1) := HRL.out.1
          by_cases hlt : j < 1
          · obtain ⟨x, hx⟩ : ∃ x, rd LL (j : Int) = x := ⟨_, rfl⟩
            have hxb : 0 ≤ x ∧ x < 256 := by rw [← hx]; exact hbnd.out _ (rd_mem (by rw [hxl.out]; omega))
            obtain ⟨ad, hA, hcell⟩ := ReadsInt.at_ HLay.out.reads (j : Int) (by omega) (by omega)
            rw [Int.toNat_natCast, hx] at hcell
            have hAL := HLB.out ad hA
            subst hA
            have hdrop := Lib.hid (rd_drop (xs := LL) (j := j) (by rw [hxl.out]; omega))
            have HX := Lib.hid hx
            have hb1 := HLay.out.src.blk
            have hs0 : wr.cell? ⟨S, 0, none⟩ = some (.pointer (some ⟨g, 0, none⟩)) := by rw [cell_blk hb1]; rfl
            have hs1 : wr.cell? ⟨S, 1, none⟩ = some (.int .i64 0) := by rw [cell_blk hb1]; rfl
            have hsf := free_blk hb1 1
            have hol := Lib.hid HLay.out.len
            have hlay : Hid (layS (zeros k) LL = if x < out.length ∧ rd out x = 0 then layS (out.set x.toNat 1) (LL.drop (j + 1)) else (out, false)) := Lib.hid (by rw [HLay.out.fin, hdrop.out, HX.out]; rfl)
            clear hx hb1
            obtain ⟨xn, rfl⟩ := Int.eq_ofNat_of_zero_le hxb.1
            rw [Int.toNat_natCast] at hlay
            by_cases hxk : xn < k
            · obtain ⟨hc1, hf1⟩ := own_at HLay.out.own (xn : Int) (by omega) (by omega)
              rw [Int.toNat_natCast] at hc1 hf1
              by_cases hz : rd out (xn : Int) = 0
              · have hzb : (rd out (xn : Int) != 0) = false := by simp [hz]
                have HN := Lib.hid (show layS (zeros k) LL = layS (out.set xn 1) (LL.drop (j + 1)) from by rw [hlay.out, if_pos ⟨by rw [hol.out]; omega, hz⟩])
                clear hz
                generalize rd out (xn : Int) = z at *
                go_wp2_with fail
                go_roundw
                case rel =>
                  have hm : Mods [G] wr (wr.setCell ⟨G, xn, none⟩ (.int .i64 1)) := (Mods.refl _ _).setCell (by simp) _
                  have ho := (own_store HLay.out.own (xn : Int) 1).1
                  rw [Int.toNat_natCast] at ho
                  have hnew : LayX w (wr.setCell ⟨G, xn, none⟩ (.int .i64 1)) S g G base k LL A bs pe (some ad) 1 (j + 1) (out.set xn 1) := ⟨HN.out, by rw [List.length_set]; exact hol.out, ho, HLay.out.src.mods hm (by simpa using HG.out.1.symm) (by simpa using HG.out.2.1.symm) (fun ad h => by simpa using HG.out.2.2 ad h), ReadsInt.mods HLay.out.reads hm (fun ad h => by have := HLB.out ad h; simp; omega), HLay.out.mods.trans (hm.mono (by simp))⟩
                  first | exact ⟨j + 1, out.set xn 1, by go_num, by omega, hnew⟩ | ((repeat apply Exists.intro); exact ⟨⟨j + 1, out.set xn 1, by go_num, by omega, hnew⟩, rfl⟩)
                case measure => simp [intOf]; omega
              · have hzb : (rd out (xn : Int) != 0) = true := by simp [hz]
                have HN := Lib.hid (show layS (zeros k) LL = (out, false) from by rw [hlay.out, if_neg (fun h => hz h.2)])
                clear hz
                generalize rd out (xn : Int) = z at *
                go_wp2_with fail
                refine (fail_any S g A bs pe 0 3 wr HLay.out.src).mono ?_
                rintro en w' ⟨rfl, hS', hM'⟩
                go_wp2_with fail
                refine bodyPost_ret (results_none rfl _ _ _) rfl ?_
                exact ⟨rfl, out, pe, 3, own_mods HLay.out.own hM' (by simpa using HG.out.1), hol.out, hS', HLay.out.mods.trans (hM'.mono (by simp)), by rw [HGD.out, HN.out]; rfl⟩
            · have HN := Lib.hid (show layS (zeros k) LL = (out, false) from by rw [hlay.out, if_neg (fun h => hxk (by have := h.1; rw [hol.out] at this; omega))])
              go_wp2_with fail
              refine (fail_any S g A bs pe 0 3 wr HLay.out.src).mono ?_
              rintro en w' ⟨rfl, hS', hM'⟩
              go_wp2_with fail
              refine bodyPost_ret (results_none rfl _ _ _) rfl ?_
              exact ⟨rfl, out, pe, 3, own_mods HLay.out.own hM' (by simpa using HG.out.1), hol.out, hS', HLay.out.mods.trans (hM'.mono (by simp)), by rw [HGD.out, HN.out]; rfl⟩
          · have HN := Lib.hid (show layS (zeros k) LL = (out, true) from by rw [HLay.out.fin, List.drop_of_length_le (by rw [hxl.out]; omega)]; rfl)
            go_wp2_with fail
            go_end0
            exact ⟨rfl, out, pe, 0, HLay.out.own, HLay.out.len, HLay.out.src, HLay.out.mods, by rw [HGD.out, HN.out]; rfl⟩
      · obtain ⟨hb1, hb2⟩ := HSN.out.bad k he
        subst hb1
        have HBD := Lib.hid hb2
        clear HSN HTW hb2
        obtain ⟨ad, hA, hcell⟩ := ReadsInt.at_ HRL.out 0 (by omega) (by omega)
        subst hA
        rw [show ((0 : Int)).toNat = 0 from rfl] at hcell
        have hcell2 : wo.cell? ad = some (.int .i64 (rd LL 0)) := by simpa [Addr.add] using hcell
        generalize rd LL 0 = x0 at *
        have hb1 := HSL.out.blk
        have hs1 : wo.cell? ⟨S, 1, none⟩ = some (.int .i64 2) := by rw [cell_blk hb1]; rfl
        clear hcell hb1
        go_loopw [9, 29] (fun x y wr => y = .int .i64 0 ∧ wr = wo) (fun x y _ => 0)
        case atStart => exact ⟨rfl, rfl⟩
        case round =>
          obtain ⟨rfl, rfl⟩ := hrel
          go_wp2_with fail
          refine bodyPost_ret (results_none rfl _ _ _) rfl ?_
          exact ⟨rfl, zeros k, pe, 2, HOL.out, by simp [zeros], HSL.out, HML.out, by rw [HBD.out]; rfl⟩
end Go.Proofs.Ytbljoihnjhllhaa

/- lens.(*source): short, steps, run, of any bits. -/
namespace Go.Proofs.Ytbljoihnjhllhaa
open Go.RowKit
open Go.Proofs.YtbljoihnjhllhaaW.PrintWords
open Srt

/-- What a step's symbol repeats. -/
theorem wid_nat (s : Int) : ∃ b : Nat, Lw.wid s = (b : Int) ∧ b ≤ 7 := by
  unfold Lw.wid
  split
  · exact ⟨2, rfl, by omega⟩
  · split
    · exact ⟨3, rfl, by omega⟩
    · split
      · exact ⟨7, rfl, by omega⟩
      · exact ⟨0, rfl, by omega⟩
/-- The number behind a symbol, if it has bits at all. -/
def RunR (bs : List Int) (p : Nat) (e : Int) (s : Int) (v : Int) (p' : Nat) (e' : Int) : Prop :=
  if (Lw.wid s).toNat = 0 then v = 0 ∧ p' = p ∧ e' = e else NumR bs p e (Lw.wid s).toNat v p' e'
set_option maxHeartbeats 2000000 in
theorem run_any (S g : Nat) (A : Option Addr) (bs : List Int) (p : Nat) (e s : Int) (w : World) (h : Srx w S g A bs p e) :
    Calls Try.prog 45 #[.pointer (some ⟨S, 0, none⟩), .int .i64 s] w fun en w' => ∃ v p' e', en = .returned (.int .i64 (Lw.base s + v)) ∧ Srx w' S g A bs p' e' ∧ Mods [S, g] w w' ∧ RunR bs p e s v p' e' ∧ 0 ≤ v ∧ v < 128 := by
  have H := Lib.hid h
  clear h
  by_cases h16 : s = 16
  · subst h16
    go_enter Try.func45, Try.ntmps45
    go_wp2_with fail
    refine (num_any S g A bs p e 2 w H.out (by omega) (by omega)).mono ?_
    rintro en w1 ⟨v, p1, e1, rfl, hS1, hM1, hN1, hva, hvb⟩
    have H1 := Lib.hid hS1; have HM1 := Lib.hid hM1; have HN1 := Lib.hid hN1
    have hvc : v < 4 := hvb
    have i1 : wrap64 (3 + v) = 3 + v := w64 _ (by omega) (by omega)
    clear hS1 hM1 hN1
    go_wp2_with fail
    go_ret
    exact ⟨v, p1, e1, rfl, H1.out, HM1.out, HN1.out, hva, by omega⟩
  · by_cases h17 : s = 17
    · subst h17
      go_enter Try.func45, Try.ntmps45
      go_wp2_with fail
      refine (num_any S g A bs p e 3 w H.out (by omega) (by omega)).mono ?_
      rintro en w1 ⟨v, p1, e1, rfl, hS1, hM1, hN1, hva, hvb⟩
      have H1 := Lib.hid hS1; have HM1 := Lib.hid hM1; have HN1 := Lib.hid hN1
      have hvc : v < 8 := hvb
      have i1 : wrap64 (3 + v) = 3 + v := w64 _ (by omega) (by omega)
      clear hS1 hM1 hN1
      go_wp2_with fail
      go_ret
      exact ⟨v, p1, e1, rfl, H1.out, HM1.out, HN1.out, hva, by omega⟩
    · by_cases h18 : s = 18
      · subst h18
        go_enter Try.func45, Try.ntmps45
        go_wp2_with fail
        refine (num_any S g A bs p e 7 w H.out (by omega) (by omega)).mono ?_
        rintro en w1 ⟨v, p1, e1, rfl, hS1, hM1, hN1, hva, hvb⟩
        have H1 := Lib.hid hS1; have HM1 := Lib.hid hM1; have HN1 := Lib.hid hN1
        have hvc : v < 128 := hvb
        have i1 : wrap64 (11 + v) = 11 + v := w64 _ (by omega) (by omega)
        clear hS1 hM1 hN1
        go_wp2_with fail
        go_ret
        exact ⟨v, p1, e1, rfl, H1.out, HM1.out, HN1.out, hva, hvc⟩
      · have d1 : (s == 16) = false := beq_eq_false_iff_ne.2 h16
        have d2 : (s == 17) = false := beq_eq_false_iff_ne.2 h17
        have d3 : (s == 18) = false := beq_eq_false_iff_ne.2 h18
        have hb : Lw.base s = 1 := by unfold Lw.base; rw [if_neg h16, if_neg h17, if_neg h18]
        have hw : (Lw.wid s).toNat = 0 := by unfold Lw.wid; rw [if_neg h16, if_neg h17, if_neg h18]; rfl
        rw [hb]
        go_enter Try.func45, Try.ntmps45
        go_wp2_with fail
        go_ret
        exact ⟨0, p, e, rfl, H.out, Mods.refl _ _, by unfold RunR; rw [if_pos hw]; exact ⟨rfl, rfl, rfl⟩, Int.le_refl _, by omega⟩
/-- How many steps there are at most. -/
def MostR (bs : List Int) (p : Nat) (e : Int) (n : Nat) (m : Int) (p' : Nat) (e' : Int) : Prop :=
  ∃ (v1 v2 v3 : Int) (p1 p2 p3 : Nat) (e1 e2 e3 : Int), NumR bs p e 1 v1 p1 e1 ∧
    ((v1 = 0 ∧ m = n ∧ p' = p1 ∧ e' = e1) ∨
     (v1 ≠ 0 ∧ NumR bs p1 e1 3 v2 p2 e2 ∧ NumR bs p2 e2 (2 + 2 * v2.toNat) v3 p3 e3 ∧ m = v3 + 2 ∧ p' = p3 ∧ e' = (if (n : Int) < m then (if e3 = 0 then 3 else e3) else e3)))
set_option maxHeartbeats 2000000 in
theorem steps_any (S g : Nat) (A : Option Addr) (bs : List Int) (p : Nat) (e : Int) (n : Nat) (w : World) (h : Srx w S g A bs p e) (hn : n ≤ 4096) :
    Calls Try.prog 43 #[.pointer (some ⟨S, 0, none⟩), .int .i64 n] w fun en w' => ∃ m p' e', en = .returned (.int .i64 m) ∧ Srx w' S g A bs p' e' ∧ Mods [S, g] w w' ∧ MostR bs p e n m p' e' ∧ 0 ≤ m ∧ m ≤ 70000 := by
  have H := Lib.hid h
  clear h
  go_enter Try.func43, Try.ntmps43
  go_wp2_with fail
  refine (num_any S g A bs p e 1 w H.out (by omega) (by omega)).mono ?_
  rintro en w1 ⟨v1, p1, e1, rfl, hS1, hM1, hN1, hva, hvb⟩
  have H1 := Lib.hid hS1; have HM1 := Lib.hid hM1; have HN1 := Lib.hid hN1
  clear hS1 hM1 hN1
  by_cases h0 : v1 = 0
  · have d0 : (v1 == 0) = true := beq_iff_eq.2 h0
    go_wp2_with fail
    go_ret
    exact ⟨n, p1, e1, rfl, H1.out, HM1.out, ⟨v1, 0, 0, p1, 0, 0, e1, 0, 0, HN1.out, .inl ⟨h0, rfl, rfl, rfl⟩⟩, by omega, by omega⟩
  · have d0 : (v1 == 0) = false := beq_eq_false_iff_ne.2 h0
    go_wp2_with fail
    refine (num_any S g A bs p1 e1 3 w1 H1.out (by omega) (by omega)).mono ?_
    rintro en w2 ⟨v2, p2, e2, rfl, hS2, hM2, hN2, hva2, hvb2⟩
    have H2 := Lib.hid hS2; have HM2 := Lib.hid (HM1.out.trans hM2); have HN2 := Lib.hid hN2
    clear hS2 hM2 hN2
    obtain ⟨k, rfl⟩ := Int.eq_ofNat_of_zero_le hva2
    have hk8 : k < 8 := by omega
    have i1 : wrap64 (2 * (k : Int)) = 2 * (k : Int) := w64 _ (by omega) (by omega)
    have i2 : wrap64 (2 + 2 * (k : Int)) = ((2 + 2 * k : Nat) : Int) := by rw [w64 _ (by omega) (by omega)]; omega
    have i3 : IntKind.i64.wrap (2 * (k : Int)) = 2 * (k : Int) := IntWalk.i64_in _ (by omega)
    have i4 : IntKind.i64.wrap (2 + 2 * (k : Int)) = ((2 + 2 * k : Nat) : Int) := by rw [IntWalk.i64_in _ (by omega)]; omega
    go_wp2_with fail
    refine (num_any S g A bs p2 e2 (2 + 2 * k) w2 H2.out (by omega) (by omega)).mono ?_
    rintro en w3 ⟨v3, p3, e3, rfl, hS3, hM3, hN3, hva3, hvb3⟩
    have H3 := Lib.hid hS3; have HM3 := Lib.hid (HM2.out.trans hM3); have HN3 := Lib.hid hN3
    have hv3 : v3 < 65536 := by
      have h : (2 : Int) ^ (2 + 2 * k) ≤ 2 ^ 16 := by exact_mod_cast Nat.pow_le_pow_right (by decide) (by omega)
      omega
    have i5 : wrap64 (v3 + 2) = v3 + 2 := w64 _ (by omega) (by omega)
    have i6 : IntKind.i64.wrap (v3 + 2) = v3 + 2 := IntWalk.i64_in _ (by omega)
    clear hS3 hM3 hN3
    have HMR := Lib.hid (show ∀ e', e' = (if (n : Int) < v3 + 2 then (if e3 = 0 then 3 else e3) else e3) → MostR bs p e n (v3 + 2) p3 e' from fun e' he => ⟨v1, (k : Int), v3, p1, p2, p3, e1, e2, e3, HN1.out, .inr ⟨h0, HN2.out, by rw [Int.toNat_natCast]; exact HN3.out, rfl, rfl, he⟩⟩)
    by_cases hm : (n : Int) < v3 + 2
    · have d1 : decide ((n : Int) < v3 + 2) = true := decide_eq_true hm
      go_wp2_with fail
      refine (fail_any S g A bs p3 e3 3 w3 H3.out).mono ?_
      rintro en w4 ⟨rfl, hS4, hM4⟩
      have H4 := Lib.hid hS4; have HM4 := Lib.hid (HM3.out.trans (hM4.mono (R := [S, g]) (by simp)))
      clear hS4 hM4
      go_wp2_with fail
      go_ret
      exact ⟨v3 + 2, p3, _, rfl, H4.out, HM4.out, HMR.out _ (by rw [if_pos hm]), by omega, by omega⟩
    · have d1 : decide ((n : Int) < v3 + 2) = false := decide_eq_false hm
      go_wp2_with fail
      go_ret
      exact ⟨v3 + 2, p3, e3, rfl, H3.out, HM3.out, HMR.out _ (by rw [if_neg (by omega)]), by omega, by omega⟩
end Go.Proofs.Ytbljoihnjhllhaa
