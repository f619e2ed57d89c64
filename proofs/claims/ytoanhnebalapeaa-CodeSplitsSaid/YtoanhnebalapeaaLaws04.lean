/- The laws of layer 4. -/
import Derived.Test.YtoanhnebalapeaaCode3
namespace Go.Proofs.Ytoanhnebalapeaa
open Go.RowKit
open Go.Proofs.YtoanhnebalapeaaW.PrintWords
open Srt

theorem own_some {w : World} {base n size : Nat} {e : TypeId} {v : Value} {xs : List Value} (h : w.ownsRow base e size v n xs) (hn : 0 < n) : ∃ g c, v = .slice (some ⟨g, 0, none⟩) n c ∧ base ≤ g := by
  rcases h.2 with ⟨_, h0⟩ | ⟨g, cap, cur, rfl, hb, _⟩
  · omega
  · exact ⟨g, cap, rfl, hb⟩

set_option maxHeartbeats 1000000 in
theorem answers04 (w : World) : Calls Try.prog 25 #[] w fun e w' => e = .returned (.bool true) ∧ Below w.heap.size w w' := by
  have H1 := Lib.hid (show codesS [2, 1, 2] = [2, 0, 3] from by decide)
  have H2 := Lib.hid (show checkS [2, 1, 2] = 0 from by decide)
  go_enter Try.func25, Try.ntmps25
  go_wp2_with fail
  refine (codes_any (some ⟨w.heap.size, 0, none⟩) 3 3 [2, 1, 2] _ (reads_lit w 3 .i64 [2, 1, 2] (by decide)) (by decide)).mono ?_
  rintro e w1 ⟨hB, v, rfl, _, h⟩
  have hO := h H2.out
  rw [H1.out] at hO
  obtain ⟨g, c, rfl, hg⟩ := own_some hO (by decide)
  obtain ⟨hc0, _⟩ := own_at hO 0 (by decide) (by decide)
  obtain ⟨hc1, _⟩ := own_at hO 1 (by decide) (by decide)
  obtain ⟨hc2, _⟩ := own_at hO 2 (by decide) (by decide)
  have hB1 : Below w.heap.size w w1 := ((Below.refl _ w).alloc (Nat.le_refl _) _).trans (hB.mono (by simp))
  have HB1 := Lib.hid hB1
  have hs1 := hB1.size
  clear hB1 hO hB h hg
  have HK := Lib.hid hc0; have HK1 := Lib.hid hc1; have HK2 := Lib.hid hc2
  clear hc0 hc1 hc2
  go_wp2_with fail
  refine (check_any (some ⟨w1.heap.size, 0, none⟩) 3 3 [2, 1, 2] _ (reads_lit w1 3 .i64 [2, 1, 2] (by decide)) (by decide)).mono ?_
  rintro e w' ⟨rfl, rfl⟩
  rw [H2.out]
  have hc0 : (w1.alloc (.cells (List.map (fun n => Value.int .i64 n) [2, 1, 2]).toArray 3)).cell? ⟨g, 0, none⟩ = some (.int .u32 2) := pw_cell_below ((Below.refl _ w1).alloc (Nat.le_refl _) _) HK.out
  have hc1 : (w1.alloc (.cells (List.map (fun n => Value.int .i64 n) [2, 1, 2]).toArray 3)).cell? ⟨g, 1, none⟩ = some (.int .u32 0) := pw_cell_below ((Below.refl _ w1).alloc (Nat.le_refl _) _) HK1.out
  have hc2 : (w1.alloc (.cells (List.map (fun n => Value.int .i64 n) [2, 1, 2]).toArray 3)).cell? ⟨g, 2, none⟩ = some (.int .u32 3) := pw_cell_below ((Below.refl _ w1).alloc (Nat.le_refl _) _) HK2.out
  have HB2 := Lib.hid (HB1.out.alloc HB1.out.size (.cells (List.map (fun n => Value.int .i64 n) [2, 1, 2]).toArray 3))
  generalize hw2 : w1.alloc (.cells (List.map (fun n => Value.int .i64 n) [2, 1, 2]).toArray 3) = w2 at *
  go_wp2_with fail

  go_ret
  refine ⟨rfl, ?_⟩
  exact HB2.out

theorem checkS_small (ls : List Int) : 0 ≤ checkS ls ∧ checkS ls ≤ 8 := by unfold checkS; split <;> (try split) <;> omega
theorem oneS_bounds (ls : List Int) : 0 ≤ (oneS ls).1 ∧ (oneS ls).1 ≤ ls.length := by
  unfold oneS oneOf
  split
  · rename_i i h
    have : i ∈ nonzero ls := by rw [h]; simp
    simp [nonzero] at this; simp; omega
  · simp

set_option maxHeartbeats 1000000 in
theorem law_CodeChecks (A : Option Addr) (n c : Nat) (ls : List Int) (w : World) (HR : ReadsInt w .i64 A n ls) (hc : n ≤ c) :
    Calls Try.prog 4 #[.slice A n c] w fun e w' => e = .returned (.bool true) ∧ Below w.heap.size w w' := by
  have HRR := Lib.hid HR; have HL := Lib.hid HR.1
  clear HR
  by_cases hn : 3000 < n
  · go_enter Try.func4, Try.ntmps4
    go_wp2_with (go_at_call 25; refine (answers04 _).mono ?_; rintro e w1 ⟨rfl, hB⟩)
    go_ret
    exact ⟨rfl, hB⟩
  · obtain ⟨x, HX⟩ : ∃ v, Hid ((oneS ls).1 = v) := ⟨_, rfl⟩
    obtain ⟨y, HY⟩ : ∃ v, Hid ((oneS ls).2 = v) := ⟨_, rfl⟩
    go_enter Try.func4, Try.ntmps4
    go_wp2_with (first | (go_at_call 26; refine (one_any A n c ls w HRR.out (by omega) hc).mono ?_; rintro e w' ⟨rfl, rfl⟩; rw [HX.out, HY.out]) | (go_at_call 27; refine (refOne_any A n c ls w HRR.out (by omega)).mono ?_; rintro e w' ⟨rfl, rfl⟩; rw [HX.out, HY.out]) | (at_builtin; refine print_append_row w.heap.size rfl _ _ 28 3 .i64 8 rfl Try.underlying28 info_int (by decide) _ [] ls A n c rfl rfl (by exact own_lit w w.heap.size 3 .i64 [] (Nat.le_refl _) (by decide)) (by exact HRR.out.below ((Below.refl _ w).alloc (Nat.le_refl _) _)) ((Below.refl _ w).alloc (Nat.le_refl _) _) (by simp) (by simp; omega) ?_))
    intro v1 w1 hown hB1 _ _
    obtain ⟨A1, c1, rfl, hR1⟩ := own_reads hown
    have hl1 : ls.length = n := HL.out
    rw [hl1] at hR1
    have HR1 := Lib.hid hR1; have HB1 := Lib.hid hB1
    clear hown hB1 hR1
    have hS := checkS_small ls
    by_cases hz : checkS ls = 0
    · have hzb : (checkS ls != 0) = false := by simp [hz]
      have HZ := Lib.hid hz
      clear hz
      go_wp2_with fail
      refine (codes_any A1 n c1 ls w1 HR1.out (by omega)).mono ?_
      rintro e w2 ⟨hB2, v, rfl, _, h⟩
      have hO := h HZ.out
      obtain ⟨A2, c2, rfl, hR2⟩ := own_reads hO
      have HR2 := Lib.hid hR2
      have HB2 := Lib.hid (below_then HB1.out HB1.out.size hB2)
      clear hO hR2 hB2 h
      go_wp2_with fail
      refine (answers04 _).mono ?_
      rintro e w3 ⟨rfl, hB3⟩
      have HB3 := Lib.hid (below_then HB2.out HB2.out.size hB3)
      have HR3 := Lib.hid (HR2.out.below hB3)
      clear hB3
      go_wp2_with (first | (go_at_call 29; refine (check_any A n c ls _ (by exact HRR.out.below HB3.out) (by omega)).mono ?_; rintro e w' ⟨rfl, rfl⟩) | (go_at_call 30; refine (refCheck_any A n c ls _ (by exact HRR.out.below HB3.out) (by omega)).mono ?_; rintro e w' ⟨rfl, rfl⟩))
      refine (refCodes_any A n c ls _ (by exact HRR.out.below HB3.out) (by omega) HZ.out).mono ?_
      rintro e w4 ⟨rfl, hO4, hB4⟩
      have HO4 := Lib.hid hO4
      have HR4 := Lib.hid (HR3.out.below hB4)
      have HB4 := Lib.hid (below_then HB3.out HB3.out.size hB4)
      clear hO4 hB4
      generalize hg : w3.heap.size = g at *
      clear hg
      go_wp2_with fail
      go_loopw [9] (fun i wr => ∃ k : Nat, k ≤ n ∧ i = .int .i64 k ∧ Hid (∃ q, wr = w4.drewN q)) (fun i _ => n - (intOf i).toNat)
      case atStart => exact ⟨0, by omega, rfl, 0, rfl⟩
      case round =>
        obtain ⟨k, hk, rfl, HQ⟩ := hrel
        by_cases hlt : k < n
        · have hq1 : ReadsInt wr .i64 A n ls := by obtain ⟨q, hq⟩ := HQ.out; rw [hq]; exact (HRR.out.below HB4.out).drewN q
          have hq2 : ReadsInt wr .u32 A2 ls.length (codesS ls) := by obtain ⟨q, hq⟩ := HQ.out; rw [hq]; exact HR4.out.drewN q
          have hq3 : wr.ownsRow g 34 1 (.slice (some ⟨g, 0, none⟩) n n) n (nums .u32 (codesS ls)) := by obtain ⟨q, hq⟩ := HQ.out; rw [hq]; exact pw_own_drewN HO4.out q
          obtain ⟨ad, hA, hcell0⟩ := ReadsInt.at_ hq1 (k : Int) (by omega) (by omega)
          rw [Int.toNat_natCast, rd_ln] at hcell0
          obtain ⟨bd, hBd, hcell1⟩ := ReadsInt.at_ hq2 (k : Int) (by omega) (by omega)
          obtain ⟨hcell2, _⟩ := own_at hq3 (k : Int) (by omega) (by omega)
          rw [Int.toNat_natCast] at hcell1 hcell2
          obtain ⟨z, hz⟩ : ∃ z, z = rd (codesS ls) (k : Int) := ⟨_, rfl⟩
          rw [← hz] at hcell1 hcell2
          have hz0 : ln ls k = 0 → z = 0 := fun h => by
            rw [hz]; unfold rd
            rw [Int.toNat_natCast, List.getD_eq_getElem?_getD, codesS_get _ _ (by omega), if_neg (by omega)]; rfl
          have hl0 := ((complete HZ.out).1 k).1
          clear hz hq1 hq2 hq3
          subst hA
          subst hBd
          have hki : (k : Int) < (n : Int) := by omega
          have hkt : ((k : Int)).toNat = k := by omega
          by_cases hp : 0 < ln ls k
          · have hp1 : decide (0 < ln ls k) = true := by simp [hp]
            have hp2 : (ln ls k == 0) = false := by simp; omega
            clear hz0 hp
            go_wp2_with fail
            go_quiet (fail)
            go_wp2
            go_roundw
            case rel =>
              obtain ⟨q, hq⟩ := HQ.out
              exact ⟨k + 1, by omega, by go_num, _, by rw [hq, World.drewN_drewN]⟩
            case measure => simp [intOf]; omega
          · have hp1 : decide (0 < ln ls k) = false := by simp; omega
            have hp2 : (ln ls k == 0) = true := by simp; omega
            have hz1 : z = 0 := hz0 (by omega)
            subst hz1
            clear hz0 hp
            go_wp2_with fail
            go_quiet (fail)
            go_wp2
            go_roundw
            case rel =>
              obtain ⟨q, hq⟩ := HQ.out
              exact ⟨k + 1, by omega, by go_num, _, by rw [hq, World.drewN_drewN]⟩
            case measure => simp [intOf]; omega
        · have hbf : Hid (Below w.heap.size w wr) := by obtain ⟨q, hq⟩ := HQ.out; show Below _ _ _; rw [hq]; exact pw_below_drewN HB4.out q
          go_wp2_with fail
          go_ret
          exact ⟨rfl, hbf.out⟩
    · have hzb : (checkS ls != 0) = true := by simp [hz]
      have HZ := Lib.hid hz
      clear hz
      go_wp2_with fail
      refine (codes_any A1 n c1 ls w1 HR1.out (by omega)).mono ?_
      rintro e w2 ⟨hB2, v, rfl, h, _⟩
      obtain rfl := h HZ.out
      have HB2 := Lib.hid (below_then HB1.out HB1.out.size hB2)
      clear hB2 h
      go_wp2_with fail
      refine (answers04 _).mono ?_
      rintro e w3 ⟨rfl, hB3⟩
      have HB3 := Lib.hid (below_then HB2.out HB2.out.size hB3)
      clear hB3
      go_wp2_with (first | (go_at_call 29; refine (check_any A n c ls _ (by exact HRR.out.below HB3.out) (by omega)).mono ?_; rintro e w' ⟨rfl, rfl⟩) | (go_at_call 30; refine (refCheck_any A n c ls _ (by exact HRR.out.below HB3.out) (by omega)).mono ?_; rintro e w' ⟨rfl, rfl⟩))
      go_ret
      exact ⟨rfl, HB3.out⟩
end Go.Proofs.Ytoanhnebalapeaa
