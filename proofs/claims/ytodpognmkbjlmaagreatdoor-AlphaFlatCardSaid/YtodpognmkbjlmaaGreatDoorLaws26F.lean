/- The law AlphaFlat. -/
import Derived.Test.YtodpognmkbjlmaaGreatDoorAlpE
namespace Go.Proofs.YtodpognmkbjlmaaGreatDoor
open Go.RowKit
open Go.Proofs.YtodpognmkbjlmaaGreatDoorW.PrintWords

theorem rep_getD {n j : Nat} {c : Int} (h : j < n) : (List.replicate n c).getD j 0 = c := by
  rw [List.getD_eq_getElem?_getD, List.getElem?_replicate_of_lt h]; rfl
theorem flat_gs {f W n t : Nat} {c : Int} (hf : f ≠ 0) (ht0 : 0 < t) (ht : t < n) (hc : 0 ≤ c ∧ c ≤ 255) : Alp.gs f W (fun j => (List.replicate n c).getD j 0) t = c := by
  unfold Alp.gs
  dsimp only
  rw [if_neg (by omega), rep_getD (show t - 1 < n by omega), rep_getD (show t - W < n by omega), rep_getD (show t - W - 1 < n by omega)]
  have : Alp.cut (c + c - c) = c := by unfold Alp.cut; split <;> (try split) <;> omega
  rw [this]
  split <;> (try split) <;> (try split) <;> (try split) <;> rfl
theorem flat_zero {f W n : Nat} {c : Int} (hn : 0 < n) (hc : 0 ≤ c ∧ c ≤ 255) : (Alp.foL f W (List.replicate n c) n).getD 0 0 = c := by
  rw [Alp.foL_getD f W _ hn]; unfold Alp.fo
  rw [rep_getD hn, gs_zero (.inr rfl)]; omega
theorem flat_rest {f W n t : Nat} {c : Int} (hf : f ≠ 0) (ht0 : 0 < t) (ht : t < n) (hc : 0 ≤ c ∧ c ≤ 255) : (Alp.foL f W (List.replicate n c) n).getD t 0 = 0 := by
  rw [Alp.foL_getD f W _ ht]; unfold Alp.fo
  rw [rep_getD ht, flat_gs hf ht0 ht hc]; omega
theorem flat_none {W n : Nat} {c : Int} (hc : 0 ≤ c ∧ c ≤ 255) : Alp.foL 0 W (List.replicate n c) n = List.replicate n c := by
  apply List.ext_getElem (by rw [Alp.foL_len, List.length_replicate])
  intro t h1 h2
  have ht : t < n := by rw [Alp.foL_len] at h1; exact h1
  have e : (Alp.foL 0 W (List.replicate n c) n).getD t 0 = (List.replicate n c).getD t 0 := by
    rw [Alp.foL_getD 0 W _ ht]; unfold Alp.fo
    rw [rep_getD ht, gs_zero (.inl rfl)]; omega
  rw [List.getD_eq_getElem?_getD, List.getD_eq_getElem?_getD, List.getElem?_eq_getElem h1, List.getElem?_eq_getElem h2] at e
  exact e
theorem rep_lt {n : Nat} {c : Int} (hc : 0 ≤ c ∧ c ≤ 255) : ∀ v ∈ List.replicate n c, 0 ≤ v ∧ v ≤ 255 := by
  intro v hv
  rw [(List.mem_replicate.1 hv).2]; exact hc
theorem reads_one8 {W : World} {e : TypeId} {g : Nat} {p : Int} (h : W.heap[g]? = some (.cells #[.int .u8 p] e (0, 0))) : ReadsInt W .u8 (some ⟨g, 0, none⟩) 1 [p] := by
  refine ⟨rfl, by decide, fun _ => ⟨_, rfl, fun j hj => ?_⟩⟩
  obtain rfl : j = 0 := by omega
  have := cell_blk h 0
  exact this

set_option maxRecDepth 100000 in
set_option maxHeartbeats 8000000 in
theorem law_AlphaFlat (aw ah af c : Int) (w : World) (hw : 0 ≤ aw ∧ aw ≤ 255) (hh : 0 ≤ ah ∧ ah ≤ 255) (hf : 0 ≤ af ∧ af ≤ 255) (hc : 0 ≤ c ∧ c ≤ 255) :
    Calls Tryz.prog 4 #[.int .u8 aw, .int .u8 ah, .int .u8 af, .int .u8 c] w fun e w' => e = .returned (.bool true) ∧ Below w.heap.size w w' := by
  obtain ⟨W, hW⟩ : ∃ W : Nat, aw % 20 + 1 = W := ⟨(aw % 20 + 1).toNat, by omega⟩
  obtain ⟨H, hH⟩ : ∃ H : Nat, ah % 20 + 1 = H := ⟨(ah % 20 + 1).toNat, by omega⟩
  obtain ⟨f, hff⟩ : ∃ f : Nat, 1 + af % 3 = f := ⟨(1 + af % 3).toNat, by omega⟩
  have rW : 1 ≤ W ∧ W ≤ 20 := by omega
  have rH : 1 ≤ H ∧ H ≤ 20 := by omega
  have rf : 1 ≤ f ∧ f ≤ 3 := by omega
  have e1 : wrap64 (wrap64 (aw.tmod 20) + 1) = (W : Int) := by rw [Int.tmod_eq_emod_of_nonneg (by omega), w64 (aw % 20) (by omega) (by omega), w64 _ (by omega) (by omega)]; omega
  have e2 : wrap64 (wrap64 (ah.tmod 20) + 1) = (H : Int) := by rw [Int.tmod_eq_emod_of_nonneg (by omega), w64 (ah % 20) (by omega) (by omega), w64 _ (by omega) (by omega)]; omega
  have e3 : wrap64 (1 + wrap64 (af.tmod 3)) = (f : Int) := by rw [Int.tmod_eq_emod_of_nonneg (by omega), w64 (af % 3) (by omega) (by omega), w64 _ (by omega) (by omega)]; omega
  have HWW := Lib.hid hW; have HHH := Lib.hid hH; have HFF := Lib.hid hff; have HE3 := Lib.hid e3
  clear hw hh hf
  obtain ⟨n, hn⟩ : ∃ n, W * H = n := ⟨_, rfl⟩
  have rn : 1 ≤ n ∧ n ≤ 400 := by rw [← hn]; exact ⟨Nat.mul_pos (by omega) (by omega), Nat.mul_le_mul rW.2 rH.2⟩
  have hWH : (W : Int) * (H : Int) = (n : Int) := by rw [← hn]; push_cast; rfl
  have e4 : wrap64 ((W : Int) * (H : Int)) = (n : Int) := by rw [hWH, w64 _ (by omega) (by omega)]
  have hg : goodI W H n = true := by unfold goodI; exact decide_eq_true ⟨by omega, by omega, by omega, by omega, hWH.symm⟩
  have HG := Lib.hid hg
  have HNN := Lib.hid hn; have HWH := Lib.hid hWH
  clear hg hW hH hff hn hWH
  go_enter Tryz.func4, Tryz.ntmps4
  have hb0 := (Below.refl _ w).alloc (Nat.le_refl _) (.cells #[.int .i64 (W : Int), .int .i64 (H : Int), .slice none 0 0] 24)
  have HB0 := Lib.hid hb0
  have HN0 := Lib.hid (alloc_new w #[.int .i64 (W : Int), .int .i64 (H : Int), .slice none 0 0] 24)
  have hsz0 : w.heap.size + 1 ≤ (w.alloc (.cells #[.int .i64 (W : Int), .int .i64 (H : Int), .slice none 0 0] 24)).heap.size := by simp
  clear hb0
  go_wp2_with fail
  clear e1 e2
  generalize w.alloc (.cells #[.int .i64 (W : Int), .int .i64 (H : Int), .slice none 0 0] 24) = w0 at *
  go_loopw [10] (fun tv wr => ∃ (t : Nat) (v : Value), t ≤ n ∧ tv = .int .i64 t ∧ Hid (wr.heap[w.heap.size]? = some (.cells #[.int .i64 (W : Int), .int .i64 (H : Int), v] 24 (0, 0))) ∧ Hid (wr.ownsRow (w.heap.size + 1) 5 1 v (List.replicate t c).length (nums .u8 (List.replicate t c))) ∧ w.heap.size + 1 ≤ wr.heap.size ∧ Hid (Below w.heap.size w wr)) (fun tv _ => n - (intOf tv).toNat)
  case atStart => exact ⟨0, _, Nat.zero_le _, rfl, HN0, own_nil _ _ _ _, hsz0, HB0⟩
  case round =>
    clear HN0 HB0 hsz0
    obtain ⟨t, v, ht, rfl, HN, HO, hsz, HBr⟩ := hrel
    obtain ⟨x0, x1, x2, z0, z1, z2⟩ := box3 HN.out
    by_cases hlt : t < n
    · have x2a : ∀ o, (wr.alloc o).cell? ⟨w.heap.size, 2, none⟩ = some v := fun o => pw_cell_below ((Below.refl _ wr).alloc (Nat.le_refl _) o) x2
      have hoa := own_alloc HO.out (.cells #[.int .u8 c] 5)
      have hbl := ((Below.refl _ wr).alloc (Nat.le_refl _) (.cells #[.int .u8 c] 5))
      have HNa := Lib.hid ((hbl.block w.heap.size (by omega)).trans HN.out)
      have hba := HBr.out.alloc (show w.heap.size ≤ wr.heap.size by omega) (.cells #[.int .u8 c] 5)
      go_wp2_with (at_builtin; refine print_append_row (w0 := wr.alloc (.cells #[.int .u8 c] 5)) (w.heap.size + 1) rfl _ _ 22 5 .u8 1 rfl Tryz.underlying22 info_u8 (by decide) v (List.replicate t c) [c] (some ⟨wr.heap.size, 0, none⟩) 1 1 rfl rfl hoa (reads_one8 (alloc_new _ _ _)) (Below.refl _ _) (by simp; omega) (by simp; omega) ?_)
      intro v1 w1 hown hB1 hgr hat
      have hc4 := box_grown HNa.out hoa hgr
      obtain ⟨_, _, n2, _, _, n5⟩ := box3 hc4
      have hli : (List.replicate t c ++ [c]) = List.replicate (t + 1) c := List.replicate_succ'.symm
      have HC4 := Lib.hid hc4
      have hown : w1.ownsRow (w.heap.size + 1) 5 1 v1 (List.replicate (t + 1) c).length (nums .u8 (List.replicate (t + 1) c)) := by rw [← hli]; simpa using hown
      have HOW := Lib.hid hown
      have HBW := Lib.hid (show Below w.heap.size w w1 from hba.grown hgr (by simp; omega) (fun r hr => by have := own_rows HO.out r hr; omega))
      have hz1 : w.heap.size + 1 ≤ w1.heap.size := by have := hgr.size; simp at this; omega
      clear hown hgr hat hc4 hoa hbl hba hB1
      have hform : ∃ g cp, v1 = .slice (some ⟨g, 0, none⟩) (List.replicate (t + 1) c).length cp ∧ w.heap.size + 1 ≤ g ∧ g < w1.heap.size := some_own HOW.out (by simp)
      obtain ⟨g, cp, hv1, hg1, _⟩ := hform
      subst hv1
      obtain ⟨LL, hLL⟩ : ∃ LL, (List.replicate (t + 1) c).length = LL := ⟨_, rfl⟩
      rw [hLL] at HOW ⊢
      have HLL := Lib.hid hLL
      clear hLL
      go_wp2_with fail
      go_roundw
      case rel =>
        have hm := (Mods.refl [w.heap.size] w1).setCell (p := ⟨w.heap.size, 2, none⟩) (.inl (by simp)) (.slice (some ⟨g, 0, none⟩) LL cp)
        have HOs := own_store HOW.out hg1 (.slice (some ⟨g, 0, none⟩) LL cp)
        rw [← HLL.out] at HOs
        rw [← HLL.out]
        rw [← HLL.out] at hm
        exact ⟨t + 1, _, by omega, by go_num, Lib.hid (blk_set HC4.out 2 _), Lib.hid HOs, by have := hm.size; omega, Lib.hid (HBW.out.setCell (p := ⟨w.heap.size, 2, none⟩) (Nat.le_refl _) _)⟩
      case measure => simp [intOf]; omega
    · have htn : t = n := Nat.le_antisymm ht (Nat.le_of_not_lt hlt)
      subst htn
      have hO' : wr.ownsRow (w.heap.size + 1) 5 1 v t (nums .u8 (List.replicate t c)) := by have h := HO.out; rw [List.length_replicate] at h; exact h
      have HO := Lib.hid hO'
      clear hO'
      have hform : ∃ g cp, v = .slice (some ⟨g, 0, none⟩) t cp ∧ w.heap.size + 1 ≤ g ∧ g < wr.heap.size := some_own HO.out rn.1
      obtain ⟨g, cp, rfl, hg1, hg2⟩ := hform
      have HRr := Lib.hid (own_reads' HO.out)
      clear HO
      go_wp2_with fail
      refine (forthA_good W H f ⟨g, 0, none⟩ t cp (List.replicate t c) wr HRr.out (rep_lt hc) (by omega) (by omega) ⟨rW.1, by omega⟩ HG.out rf.2).mono ?_
      rintro e w1 ⟨hB, A2, c2, rfl, hr⟩
      have HN1 := Lib.hid ((Mods.of_below hB []).blk HN.out (by simp))
      have HR1 := Lib.hid (HRr.out.below hB)
      have HB1 := Lib.hid (below_then HBr.out (by omega) hB)
      obtain ⟨ad, hA, hcell⟩ := hr.2.2 (by omega)
      subst hA
      have HRA := Lib.hid hr
      have c0 : w1.cell? ad = some (.int .u8 c) := by
        have h := hcell 0 (by omega)
        rw [flat_zero (by omega) hc, show ad.add 0 = ad from by simp [Addr.add]] at h; exact h
      clear hB hr hcell x0 x1 x2 z0 z1 z2
      obtain ⟨x0, x1, x2, _, _, _⟩ := box3 HN1.out
      have hz1 := HB1.out.size
      go_wp2_with fail
      go_loopw [14] (fun tv w' => ∃ s : Nat, 1 ≤ s ∧ s ≤ t ∧ tv = .int .i64 s ∧ w' = w1) (fun tv _ => t - (intOf tv).toNat)
      case atStart => exact ⟨1, Nat.le_refl _, by omega, rfl, rfl⟩
      case round =>
        obtain ⟨s, hs1, hs, rfl, rfl⟩ := hrel
        by_cases hst : s < t
        · have cs : wr.cell? (ad.add s) = some (.int .u8 0) := by
            obtain ⟨a', h', hcell⟩ := HRA.out.2.2 (by omega)
            cases h'
            have h := hcell s hst
            rw [flat_rest (by omega) (by omega) hst hc] at h; exact h
          have k1 : (0 : Int) ≤ (s : Int) := by omega
          have k2 : (s : Int) < (t : Int) := by omega
          go_wp2_with fail
          go_roundw
          case rel => exact ⟨s + 1, by omega, by omega, by go_num, by first | rfl | trivial⟩
          case measure => simp [intOf]; omega
        · have k3 : decide ((s : Int) < (t : Int)) = false := decide_eq_false (by omega)
          go_wp2_with fail
          refine (forthA_good W H 0 ⟨g, 0, none⟩ t cp (List.replicate t c) wr HR1.out (rep_lt hc) rn.1 (by omega) ⟨rW.1, by omega⟩ HG.out (by omega)).mono ?_
          rintro e w3 ⟨hB, A3, c3, rfl, hr⟩
          rw [flat_none hc] at hr
          have HN3 := Lib.hid ((Mods.of_below hB []).blk HN1.out (by simp))
          have HR3 := Lib.hid (HR1.out.below hB)
          have HS3 := Lib.hid hr
          have HB3 := Lib.hid (below_then HB1.out hz1 hB)
          have hz3 := HB3.out.size
          clear hB hr x0 x1 x2
          go_wp2_with fail
          refine (answers26 w3).mono ?_
          rintro e w4 ⟨rfl, hB⟩
          have HN4 := Lib.hid ((Mods.of_below hB []).blk HN3.out (by simp))
          have HR4 := Lib.hid (HR3.out.below hB)
          have HS4 := Lib.hid (HS3.out.below hB)
          have HB4 := Lib.hid (below_then HB3.out hz3 hB)
          have hz4 := HB4.out.size
          clear hB
          obtain ⟨x0, x1, x2, _, _, _⟩ := box3 HN4.out
          go_wp2_with fail
          refine (bytes_same A3 (some ⟨g, 0, none⟩) t c3 cp (List.replicate t c) w4 HS4.out HR4.out).mono ?_
          rintro e w5 ⟨rfl, hB⟩
          have HB5 := Lib.hid (below_then HB4.out hz4 hB)
          clear hB
          go_wp2_with fail
          go_ret
          exact ⟨rfl, HB5.out⟩
end Go.Proofs.YtodpognmkbjlmaaGreatDoor
