/- The law TreeBack. -/
import Derived.Test.YtoanhnebalapeaaLaws05
import Derived.Test.YtoanhnebalapeaaTreeP2
namespace Go.Proofs.Ytoanhnebalapeaa
open Go.RowKit
open Go.Proofs.YtoanhnebalapeaaW.PrintWords
open Srt

set_option maxRecDepth 8000 in
set_option maxHeartbeats 4000000 in
theorem law_TreeBack (A : Option Addr) (n c : Nat) (ls : List Int) (D : Option Addr) (m d : Nat) (ss : List Int) (w : World) (HR : ReadsInt w .i64 A n ls) (HS : ReadsInt w .i64 D m ss) (hnc : n ≤ c) :
    Calls Try.prog 16 #[.slice A n c, .slice D m d] w fun e w' => e = .returned (.bool true) ∧ Below w.heap.size w w' := by
  have HRR := Lib.hid HR; have HSS := Lib.hid HS; have hl0 := HR.1; have hl1 := HS.1
  clear HR HS
  subst hl0
  subst hl1
  by_cases hn1 : 300 < ls.length
  · go_enter Try.func16, Try.ntmps16
    go_wp2_with (go_at_call 36; refine (answers05 _).mono ?_; rintro e w1 ⟨rfl, hB⟩)
    go_ret
    exact ⟨rfl, hB⟩
  by_cases hn2 : 100 < ss.length
  · go_enter Try.func16, Try.ntmps16
    go_wp2_with (go_at_call 36; refine (answers05 _).mono ?_; rintro e w1 ⟨rfl, hB⟩)
    go_ret
    exact ⟨rfl, hB⟩
  by_cases hz : checkS ls = 0
  · have HZ := Lib.hid hz
    clear hz
    obtain ⟨x, HX⟩ : ∃ v, Hid ((oneS ls).1 = v) := ⟨_, rfl⟩
    obtain ⟨y, HY⟩ : ∃ v, Hid ((oneS ls).2 = v) := ⟨_, rfl⟩
    go_enter Try.func16, Try.ntmps16
    go_wp2_with fail
    refine (tree_new A ls.length c ls w HRR.out (by omega) hnc HZ.out).mono ?_
    rintro e w2 ⟨hB2, B, os, rfl, hB, hT⟩
    have HB2 := Lib.hid hB2; have HT := Lib.hid hT
    clear hB2 hT hB
    go_wp2_with fail
    refine (answers05 _).mono ?_
    rintro e w3 ⟨rfl, hB3⟩
    have HB3 := Lib.hid (below_then HB2.out HB2.out.size hB3)
    have HT3 := Lib.hid (HT.out.below hB3)
    have hs23 := hB3.size
    generalize hhi : w2.heap.size = hi at *
    have HHI0 := Lib.hid hhi
    clear hB3 hhi
    go_wp2_with (go_at_call 27; refine (refOne_any A _ c ls w3 (by exact HRR.out.below HB3.out) (by omega)).mono ?_; rintro e w' ⟨rfl, rfl⟩; rw [HX.out, HY.out])
    refine (w_new w3).mono ?_
    rintro e w4 ⟨rfl, hW4, hB4⟩
    have HT4 := Lib.hid (HT3.out.mods (Mods.of_below hB4 []) (by simp))
    have HW4 := Lib.hid hW4; have HB4 := Lib.hid (below_then HB3.out HB3.out.size hB4)
    have hg4 : w3.heap.size < w4.heap.size := blk_lt hW4.2.2.1
    generalize hg : w3.heap.size = g at *
    clear hW4 hB4 hg
    go_wp2_with fail
    have HHI := Lib.hid (show w.heap.size ≤ hi from by have := HB2.out.size; rw [HHI0.out] at this; exact this)
    go_loopw [10, 11, 12, 13, 14, 15, 16, 17] (fun tv i _ _ _ _ _ _ wr => ∃ (k : Nat) (T : List Nat) (tw : Value), k ≤ ss.length ∧ tw = tv ∧ i = .int .i64 k ∧ T.length ≤ k ∧ Hid (∀ s ∈ T, hasS ls (s : Nat) = true) ∧ Hid (∃ v, Wtr wr g v (sbs ls T) ∧ ∀ b, v.ownBlock = some b → hi ≤ b) ∧ Hid (wr.ownsRow (g + 1) 3 1 tv T.length (nums .i64 (T.map Int.ofNat))) ∧ Hid (IsTree wr B hi ls os) ∧ Hid (Below w.heap.size w wr)) (fun _ i _ _ _ _ _ _ _ => ss.length - (intOf i).toNat)
    case atStart => exact ⟨0, [], _, by omega, rfl, rfl, by simp, by show ∀ s ∈ ([] : List Nat), _; simp, ⟨_, HW4.out, by intro b hb; simp [Value.ownBlock] at hb⟩, own_nil _ _ _ _, HT4.out, HB4.out⟩
    case round =>
      obtain ⟨k, T, tw, hk, rfl, rfl, hTk, HTs, HW, HO, HTr, HBw⟩ := hrel
      by_cases hlt : k < ss.length
      · obtain ⟨dd, hD, hcell0⟩ := ReadsInt.at_ (HSS.out.below HBw.out) (k : Int) (by omega) (by omega)
        rw [Int.toNat_natCast] at hcell0
        subst hD
        obtain ⟨v, hW, hvb⟩ := HW.out
        have hlen := sbs_len (ls := ls) (fun s => by have := costS_le HZ.out s; omega) T
        have HWt := Lib.hid hW; have HVB := Lib.hid hvb
        clear hW hvb HW
        generalize hs : rd ss (k : Int) = s at *
        have HSV := Lib.hid hs
        clear hs
        by_cases hh : hasS ls s = true
        · have hh' := hh
          unfold hasS at hh'
          simp only [Bool.and_eq_true, decide_eq_true_eq] at hh'
          obtain ⟨⟨h1, h2⟩, h3⟩ := hh'
          obtain ⟨t, rfl⟩ := Int.eq_ofNat_of_zero_le h1
          rw [Int.toNat_natCast] at h3
          obtain ⟨ad, hA, hcell1⟩ := ReadsInt.at_ (HRR.out.below HBw.out) (t : Int) (by omega) h2
          rw [Int.toNat_natCast, rd_ln] at hcell1
          subst hA
          have HH := Lib.hid hh
          have hd1 : decide (0 < ln ls t) = true := by simp [h3]
          have hco := costS_le HZ.out t
          have htt : ((t : Int)).toNat = t := by omega
          have hsbl : (sb ls t).length = (costS ls t).toNat := codeBits_length _ _
          have HSB := Lib.hid hsbl
          clear hh h1 hsbl
          cases y
          · have hce : costS ls t = ln ls t := by unfold costS; rw [HH.out, HY.out, Int.toNat_natCast]; rfl
            obtain ⟨nn, hnn⟩ := Int.eq_ofNat_of_zero_le hco.1
            rw [← hce, hnn] at hcell1
            rw [← hce, hnn] at hd1
            rw [← hce, hnn] at h3
            have HCE := Lib.hid hnn
            have HND := Lib.hid (show (costS ls t).toNat = nn from by rw [hnn, Int.toNat_natCast])
            have hn15 : nn ≤ 15 := by omega
            clear hce hnn hco
            go_wp2_with fail
            refine (w_len g v (sbs ls T) wr HWt.out).mono ?_
            rintro e w' ⟨rfl, rfl⟩
            go_wp2_with fail
            refine (cost_any B hi ls os t wr HTr.out).mono ?_
            rintro e w' ⟨rfl, rfl⟩
            rw [HH.out, HCE.out]
            go_wp2_with fail
            refine (write_any B hi g ls os v (sbs ls T) t wr HTr.out HH.out HWt.out hs23 (by omega) HVB.out).mono ?_
            rintro e w5 ⟨rfl, v', hW5, hM5, hat5⟩
            rw [show sbs ls T ++ codeBits (codeS ls t) (costS ls t).toNat = sbs ls (T ++ [t]) from (sbs_app ls T t).symm] at hW5
            have hl5 : (sbs ls (T ++ [t])).length = (sbs ls T).length + nn := by rw [sbs_app, List.length_append, HSB.out, HND.out]
            have hSub : ∀ b ∈ g :: rows v, hi ≤ b := by
              intro b hb
              rcases List.mem_cons.1 hb with rfl | hb
              · exact hs23
              · exact HVB.out b (by simpa [rows] using hb)
            have hT5 := HTr.out.mods hM5 hSub
            have hvb5 : ∀ b, v'.ownBlock = some b → hi ≤ b := fun b hb => by
              rcases hat5 with h | ⟨b', h, hb'⟩
              · exact HVB.out b (by rw [← h]; exact hb)
              · rw [hb] at h; cases h
                have := HTr.out.2.1; omega
            have hO5 : w5.ownsRow (g + 1) 3 1 tw T.length (nums .i64 (T.map Int.ofNat)) := by
              refine own_move HO.out (fun q hq => ?_)
              refine hM5.block q (own_lt HO.out q hq) (fun hc => ?_)
              rcases List.mem_cons.1 hc with rfl | hc
              · have := own_base HO.out _ hq; omega
              · have hvr : v.ownBlock = some q := by simpa [rows] using hc
                rcases own_type_ne HO.out HWt.out.2.2.2 (by decide) with h | h
                · rw [hq] at h; cases h
                · exact h (by rw [hq, hvr])
            have hwg : ∀ b ∈ g :: rows v, w.heap.size ≤ b := fun b hb => by have := hSub b hb; have := HHI.out; omega
            have hB5 := Below.then_mods HBw.out HBw.out.size hM5 hwg
            have HW5 := Lib.hid hW5; have HT5 := Lib.hid hT5; have HVB5 := Lib.hid hvb5; have HB5 := Lib.hid hB5; have HL5 := Lib.hid hl5
            have hgw : g + 1 ≤ w5.heap.size := by have := hW5.2.2.1; have := blk_lt this; omega
            have hO5' : w5.ownsRow (g + 1) 3 1 tw (T.map Int.ofNat).length (nums .i64 (T.map Int.ofNat)) := by rw [List.length_map]; exact hO5
            have HO5 := Lib.hid hO5'
            clear hW5 hM5 hat5 hl5 hSub hT5 hvb5 hO5 hO5' hwg hB5
            go_wp2_with fail
            have hwl := w_len g v' (sbs ls (T ++ [t])) w5 HW5.out
            rw [HL5.out] at hwl
            refine hwl.mono ?_
            rintro e w' ⟨rfl, rfl⟩
            clear hwl
            go_wp2_with (at_builtin; refine print_append_num (g + 1) rfl _ _ 28 3 .i64 8 rfl Try.underlying28 info_int (by decide) _ (T.map Int.ofNat) (t : Int) rfl rfl (by exact HO5.out) (Below.refl (g + 1) w5) hgw (by rw [List.length_map]; omega) ?_)
            intro v6 w6 hown6 hB6 hg6 _
            obtain ⟨b6, c6, rfl, hgb6⟩ := own_some' hown6 (by simp)
            have hW6 : Wtr w6 g v' (sbs ls (T ++ [t])) := by
              obtain ⟨q1, q2, q3, q4⟩ := HW5.out
              refine ⟨q1, q2, (hB6.block g (by omega)).trans q3, own_other q4 hg6 ?_⟩
              exact own_type_ne q4 HO5.out (by decide)
            have hT6 := HT5.out.below (hB6.mono (by omega))
            have hB6' := HB5.out.trans (hB6.mono (by have := HHI.out; omega))
            have hO6 : w6.ownsRow (g + 1) 3 1 (.slice (some ⟨b6, 0, none⟩) (T.length + 1) c6) (T ++ [t]).length (nums .i64 ((T ++ [t]).map Int.ofNat)) := by
              rw [List.length_append, List.map_append]; exact hown6
            have hTs' : ∀ s ∈ T ++ [t], hasS ls (s : Nat) = true := fun s hs => by
              rcases List.mem_append.1 hs with h | h
              · exact HTs.out s h
              · obtain rfl : s = t := by simpa using h
                exact HH.out
            have HW6 := Lib.hid hW6; have HT6 := Lib.hid hT6; have HB6 := Lib.hid hB6'; have HO6 := Lib.hid hO6; have HTS := Lib.hid hTs'
            clear hW6 hT6 hB6' hO6 hTs' hown6 hB6 hg6
            go_wp2_with fail
            go_roundw
            case rel => exact ⟨k + 1, T ++ [t], _, by omega, rfl, by go_num, by simp; omega, HTS.out, ⟨v', HW6.out, HVB5.out⟩, HO6.out, HT6.out, HB6.out⟩
            case measure => simp [intOf]; omega
          · have hce : costS ls t = 0 := by unfold costS; rw [HH.out, HY.out]; rfl
            have HCE := Lib.hid hce
            have HND := Lib.hid (show (costS ls t).toNat = 0 from by rw [hce]; rfl)
            clear hce hco
            go_wp2_with fail
            refine (w_len g v (sbs ls T) wr HWt.out).mono ?_
            rintro e w' ⟨rfl, rfl⟩
            go_wp2_with fail
            refine (cost_any B hi ls os t wr HTr.out).mono ?_
            rintro e w' ⟨rfl, rfl⟩
            rw [HH.out, HCE.out]
            go_wp2_with fail
            refine (write_any B hi g ls os v (sbs ls T) t wr HTr.out HH.out HWt.out hs23 (by omega) HVB.out).mono ?_
            rintro e w5 ⟨rfl, v', hW5, hM5, hat5⟩
            rw [show sbs ls T ++ codeBits (codeS ls t) (costS ls t).toNat = sbs ls (T ++ [t]) from (sbs_app ls T t).symm] at hW5
            have hl5 : (sbs ls (T ++ [t])).length = (sbs ls T).length := by rw [sbs_app, List.length_append, HSB.out, HND.out, Nat.add_zero]
            have hSub : ∀ b ∈ g :: rows v, hi ≤ b := by
              intro b hb
              rcases List.mem_cons.1 hb with rfl | hb
              · exact hs23
              · exact HVB.out b (by simpa [rows] using hb)
            have hT5 := HTr.out.mods hM5 hSub
            have hvb5 : ∀ b, v'.ownBlock = some b → hi ≤ b := fun b hb => by
              rcases hat5 with h | ⟨b', h, hb'⟩
              · exact HVB.out b (by rw [← h]; exact hb)
              · rw [hb] at h; cases h
                have := HTr.out.2.1; omega
            have hO5 : w5.ownsRow (g + 1) 3 1 tw T.length (nums .i64 (T.map Int.ofNat)) := by
              refine own_move HO.out (fun q hq => ?_)
              refine hM5.block q (own_lt HO.out q hq) (fun hc => ?_)
              rcases List.mem_cons.1 hc with rfl | hc
              · have := own_base HO.out _ hq; omega
              · have hvr : v.ownBlock = some q := by simpa [rows] using hc
                rcases own_type_ne HO.out HWt.out.2.2.2 (by decide) with h | h
                · rw [hq] at h; cases h
                · exact h (by rw [hq, hvr])
            have hwg : ∀ b ∈ g :: rows v, w.heap.size ≤ b := fun b hb => by have := hSub b hb; have := HHI.out; omega
            have hB5 := Below.then_mods HBw.out HBw.out.size hM5 hwg
            have HW5 := Lib.hid hW5; have HT5 := Lib.hid hT5; have HVB5 := Lib.hid hvb5; have HB5 := Lib.hid hB5; have HL5 := Lib.hid hl5
            have hgw : g + 1 ≤ w5.heap.size := by have := hW5.2.2.1; have := blk_lt this; omega
            have hO5' : w5.ownsRow (g + 1) 3 1 tw (T.map Int.ofNat).length (nums .i64 (T.map Int.ofNat)) := by rw [List.length_map]; exact hO5
            have HO5 := Lib.hid hO5'
            clear hW5 hM5 hat5 hl5 hSub hT5 hvb5 hO5 hO5' hwg hB5
            go_wp2_with fail
            have hwl := w_len g v' (sbs ls (T ++ [t])) w5 HW5.out
            rw [HL5.out] at hwl
            refine hwl.mono ?_
            rintro e w' ⟨rfl, rfl⟩
            clear hwl
            go_wp2_with (at_builtin; refine print_append_num (g + 1) rfl _ _ 28 3 .i64 8 rfl Try.underlying28 info_int (by decide) _ (T.map Int.ofNat) (t : Int) rfl rfl (by exact HO5.out) (Below.refl (g + 1) w5) hgw (by rw [List.length_map]; omega) ?_)
            intro v6 w6 hown6 hB6 hg6 _
            obtain ⟨b6, c6, rfl, hgb6⟩ := own_some' hown6 (by simp)
            have hW6 : Wtr w6 g v' (sbs ls (T ++ [t])) := by
              obtain ⟨q1, q2, q3, q4⟩ := HW5.out
              refine ⟨q1, q2, (hB6.block g (by omega)).trans q3, own_other q4 hg6 ?_⟩
              exact own_type_ne q4 HO5.out (by decide)
            have hT6 := HT5.out.below (hB6.mono (by omega))
            have hB6' := HB5.out.trans (hB6.mono (by have := HHI.out; omega))
            have hO6 : w6.ownsRow (g + 1) 3 1 (.slice (some ⟨b6, 0, none⟩) (T.length + 1) c6) (T ++ [t]).length (nums .i64 ((T ++ [t]).map Int.ofNat)) := by
              rw [List.length_append, List.map_append]; exact hown6
            have hTs' : ∀ s ∈ T ++ [t], hasS ls (s : Nat) = true := fun s hs => by
              rcases List.mem_append.1 hs with h | h
              · exact HTs.out s h
              · obtain rfl : s = t := by simpa using h
                exact HH.out
            have HW6 := Lib.hid hW6; have HT6 := Lib.hid hT6; have HB6 := Lib.hid hB6'; have HO6 := Lib.hid hO6; have HTS := Lib.hid hTs'
            clear hW6 hT6 hB6' hO6 hTs' hown6 hB6 hg6
            go_wp2_with fail
            go_roundw
            case rel => exact ⟨k + 1, T ++ [t], _, by omega, rfl, by go_num, by simp; omega, HTS.out, ⟨v', HW6.out, HVB5.out⟩, HO6.out, HT6.out, HB6.out⟩
            case measure => simp [intOf]; omega
        · have HH := Lib.hid (show hasS ls s = false from by simpa using hh)
          have HCE := Lib.hid (show costS ls s = 0 from by unfold costS; rw [HH.out]; rfl)
          have hsplit : s < 0 ∨ (ls.length : Int) ≤ s ∨ (0 ≤ s ∧ s < ls.length ∧ ln ls s.toNat ≤ 0) := by
            unfold hasS at hh
            simp only [Bool.and_eq_true, decide_eq_true_eq] at hh
            omega
          clear hh
          rcases hsplit with h0 | h0 | ⟨h0, h1, h2⟩
          · have hd1 : decide (0 ≤ s) = false := by simp; omega
            go_wp2_with fail
            refine (w_len g v (sbs ls T) wr HWt.out).mono ?_
            rintro e w' ⟨rfl, rfl⟩
            go_wp2_with fail
            refine (cost_any B hi ls os _ wr HTr.out).mono ?_
            rintro e w' ⟨rfl, rfl⟩
            rw [HH.out, HCE.out]
            go_wp2_with fail
            refine (write_not B hi g ls os _ wr HTr.out HH.out).mono ?_
            rintro e w' ⟨rfl, rfl⟩
            go_wp2_with fail
            refine (w_len g v (sbs ls T) wr HWt.out).mono ?_
            rintro e w' ⟨rfl, rfl⟩
            go_wp2_with fail
            go_roundw
            case rel => exact ⟨k + 1, T, _, by omega, rfl, by go_num, by omega, HTs.out, ⟨v, HWt.out, HVB.out⟩, HO.out, HTr.out, HBw.out⟩
            case measure => simp [intOf]; omega
          · have hd1 : decide (0 ≤ s) = true := by simp; omega
            have hd2 : decide (s < (ls.length : Int)) = false := by simp; omega
            go_wp2_with fail
            refine (w_len g v (sbs ls T) wr HWt.out).mono ?_
            rintro e w' ⟨rfl, rfl⟩
            go_wp2_with fail
            refine (cost_any B hi ls os _ wr HTr.out).mono ?_
            rintro e w' ⟨rfl, rfl⟩
            rw [HH.out, HCE.out]
            go_wp2_with fail
            refine (write_not B hi g ls os _ wr HTr.out HH.out).mono ?_
            rintro e w' ⟨rfl, rfl⟩
            go_wp2_with fail
            refine (w_len g v (sbs ls T) wr HWt.out).mono ?_
            rintro e w' ⟨rfl, rfl⟩
            go_wp2_with fail
            go_roundw
            case rel => exact ⟨k + 1, T, _, by omega, rfl, by go_num, by omega, HTs.out, ⟨v, HWt.out, HVB.out⟩, HO.out, HTr.out, HBw.out⟩
            case measure => simp [intOf]; omega
          · obtain ⟨t, rfl⟩ := Int.eq_ofNat_of_zero_le h0
            rw [Int.toNat_natCast] at h2
            obtain ⟨ad, hA, hcell1⟩ := ReadsInt.at_ (HRR.out.below HBw.out) (t : Int) (by omega) h1
            rw [Int.toNat_natCast, rd_ln] at hcell1
            subst hA
            have hd1 : decide (0 < ln ls t) = false := by simp; omega
            have htt : ((t : Int)).toNat = t := by omega
            go_wp2_with fail
            refine (w_len g v (sbs ls T) wr HWt.out).mono ?_
            rintro e w' ⟨rfl, rfl⟩
            go_wp2_with fail
            refine (cost_any B hi ls os _ wr HTr.out).mono ?_
            rintro e w' ⟨rfl, rfl⟩
            rw [HH.out, HCE.out]
            go_wp2_with fail
            refine (write_not B hi g ls os _ wr HTr.out HH.out).mono ?_
            rintro e w' ⟨rfl, rfl⟩
            go_wp2_with fail
            refine (w_len g v (sbs ls T) wr HWt.out).mono ?_
            rintro e w' ⟨rfl, rfl⟩
            go_wp2_with fail
            go_roundw
            case rel => exact ⟨k + 1, T, _, by omega, rfl, by go_num, by omega, HTs.out, ⟨v, HWt.out, HVB.out⟩, HO.out, HTr.out, HBw.out⟩
            case measure => simp [intOf]; omega
      · obtain rfl : k = ss.length := by omega
        obtain ⟨v, hW, hvb⟩ := HW.out
        have hlen := sbs_len (ls := ls) (fun s => by have := costS_le HZ.out s; omega) T
        obtain ⟨AT, cT, rfl, hRT⟩ := own_reads HO.out
        have hAT : ∀ ad, AT = some ad → ad.block < wr.heap.size := fun ad e => own_lt HO.out ad.block (by rw [e]; rfl)
        have HWt := Lib.hid hW; have HRT := Lib.hid hRT
        clear hW hvb HW hRT
        go_wp2_with fail
        refine (w_bytes g v (sbs ls T) wr HWt.out).mono ?_
        rintro e w5 ⟨v5, rfl, hO5, hB5⟩
        obtain ⟨A5, c5, rfl, hR5⟩ := own_reads hO5
        have HB5 := Lib.hid (below_then HBw.out HBw.out.size hB5); have HR5 := Lib.hid hR5
        have HT5 := Lib.hid (HTr.out.mods (Mods.of_below hB5 []) (by simp)); have HRT5 := Lib.hid (HRT.out.below hB5)
        have hs5 := hB5.size
        clear hO5 hB5 hR5
        go_wp2_with fail
        refine (newReader A5 _ c5 (packB (sbs ls T)) w5 HR5.out (packB_bytes (sbs_bits ls T)) (by omega)).mono ?_
        rintro e w6 ⟨g6, A6, rfl, hg6, hA6, hR6, hB6⟩
        have HT6 := Lib.hid (HT5.out.mods (Mods.of_below hB6 []) (by simp)); have HRT6 := Lib.hid (HRT5.out.below hB6)
        have HB6 := Lib.hid (below_then HB5.out HB5.out.size hB6); have HR6 := Lib.hid hR6
        have HATS := Lib.hid (show ∀ ad, AT = some ad → ad.block ∉ [g6] from fun ad e => by have := hAT ad e; simp; omega)
        have hig : hi ≤ g6 := by have := HTr.out.2.1; omega
        have hwg6 : w.heap.size ≤ g6 := by have := HBw.out.size; omega
        clear hR6 hB6 hA6 hAT
        go_wp2_with fail
        go_loopw [19, 20, 21] (fun i _ _ wz => ∃ j : Nat, j ≤ T.length ∧ i = .int .i64 j ∧ Hid (Rdr wz g6 A6 (packB (sbs ls T)) (sbs ls (T.take j)).length false) ∧ Hid (Mods [g6] w6 wz)) (fun i _ _ _ => T.length - (intOf i).toNat)
        case atStart => exact ⟨0, by omega, rfl, HR6.out, Mods.refl _ _⟩
        case round =>
          obtain ⟨j, hj, rfl, HRj, HMj⟩ := hrel
          by_cases hjl : j < T.length
          · have HTj := Lib.hid (HT6.out.mods HMj.out (by simpa using hig))
            have hs := HTs.out T[j] (List.getElem_mem hjl)
            have hnext := sbs_take_next ls T j hjl
            have hle := sbs_take_le ls T (j + 1)
            have hval : rd (T.map Int.ofNat) (j : Int) = ((T[j] : Nat) : Int) := by
              unfold rd
              rw [Int.toNat_natCast, List.getD_eq_getElem?_getD, List.getElem?_map, List.getElem?_eq_getElem hjl]; rfl
            have hbit : ∀ t, t < (costS ls T[j]).toNat → bitAt (packB (sbs ls T)) ((sbs ls (T.take j)).length + t) = codeS ls T[j] / 2 ^ ((costS ls T[j]).toNat - 1 - t) % 2 := fun t ht => by
              rw [bitAt_pack (sbs_bits ls T)]; exact sbs_at ls T j hjl t ht
            have hpl := packB_length (sbs ls T)
            generalize T[j] = s at *
            have HN := Lib.hid hnext; have HV := Lib.hid hval
            cases y
            · have hf := found_written HZ.out HY.out hs hbit
              have hin : (sbs ls (T.take j)).length + (costS ls s).toNat ≤ 8 * (packB (sbs ls T)).length := by rw [hpl]; omega
              have HF := Lib.hid hf; have HIN := Lib.hid hin
              clear hf hin hs hnext hle hval hbit hpl
              go_wp2_with fail
              refine (read_in B hi g6 ls os A6 _ _ _ s wr HTj.out HY.out HRj.out hig HF.out HIN.out).mono ?_
              rintro e w7 ⟨rfl, hR7, hM7⟩
              rw [← HN.out] at hR7
              have HR7 := Lib.hid hR7; have HM7 := Lib.hid (HMj.out.trans hM7)
              obtain ⟨ae, hAe, hcell⟩ := ReadsInt.at_ (ReadsInt.mods HRT6.out (HMj.out.trans hM7) HATS.out) (j : Int) (by omega) (by omega)
              rw [HV.out, Int.toNat_natCast] at hcell
              subst hAe
              clear hR7 hM7
              go_wp2_with fail
              go_roundw
              case rel => exact ⟨j + 1, by omega, by go_num, HR7.out, HM7.out⟩
              case measure => simp [intOf]; omega
            · have h0 : (costS ls s).toNat = 0 := by unfold costS; rw [hs, HY.out]; rfl
              have hone := one_is HZ.out HY.out hs
              rw [h0, Nat.add_zero] at hnext
              have HN2 := Lib.hid hnext; have HONE := Lib.hid hone
              clear hs hnext hle hval hbit hpl h0 hone HN
              go_wp2_with fail
              refine (read_one B hi g6 ls os A6 _ _ wr HTj.out HY.out HRj.out).mono ?_
              rintro e w' ⟨rfl, rfl⟩
              rw [HONE.out]
              obtain ⟨ae, hAe, hcell⟩ := ReadsInt.at_ (ReadsInt.mods HRT6.out HMj.out HATS.out) (j : Int) (by omega) (by omega)
              rw [HV.out, Int.toNat_natCast] at hcell
              subst hAe
              go_wp2_with fail
              go_roundw
              case rel => exact ⟨j + 1, by omega, by go_num, by show Rdr _ _ _ _ _ _; rw [HN2.out]; exact HRj.out, HMj.out⟩
              case measure => simp [intOf]; omega
          · go_wp2_with fail
            go_ret
            exact ⟨rfl, Below.then_mods HB6.out HB6.out.size HMj.out (by simpa using hwg6)⟩
  · have hzb : (checkS ls != 0) = true := by simp [hz]
    have HZ := Lib.hid hz
    have hS : 0 ≤ checkS ls ∧ checkS ls ≤ 8 := by unfold checkS; split <;> (try split) <;> omega
    clear hz
    go_enter Try.func16, Try.ntmps16
    go_wp2_with fail
    refine (tree_bad A ls.length c ls w HRR.out (by omega) HZ.out).mono ?_
    rintro e w' ⟨rfl, rfl⟩
    go_wp2_with (go_at_call 36; refine (answers05 _).mono ?_; rintro e w1 ⟨rfl, hB⟩)
    go_ret
    exact ⟨rfl, hB⟩
end Go.Proofs.Ytoanhnebalapeaa
