/- The law SizeOrder. -/
import Derived.Test.YtoanhnebalapeaaLaws06F
namespace Go.Proofs.Ytoanhnebalapeaa
open Go.RowKit
open Go.Proofs.YtoanhnebalapeaaW.PrintWords
open Srt Sz

theorem okS_small (cs : List Int) (most : Int) (hl : cs.length ≤ 2 ^ most.toNat) (hn : cs.length ≤ 4096) (hc : ∀ x ∈ cs, 0 ≤ x ∧ x ≤ 65535) (h2 : 1 ≤ most) (h3 : most ≤ 15) : okS cs most = true := by
  have hm := many_le cs
  have hp : (many cs : Int) ≤ 2 ^ most.toNat := by
    have : many cs ≤ 2 ^ most.toNat := by omega
    exact_mod_cast this
  unfold okS
  rw [decide_eq_true (show 1 ≤ most ∧ most ≤ 15 ∧ cs.length ≤ 4096 from ⟨h2, h3, hn⟩), decide_eq_true hp]
  have hb : cs.any badCnt = false := by
    rw [List.any_eq_false]
    intro y hy
    have := hc y hy
    simp [badCnt]; omega
  rw [hb]; rfl
theorem take_ln (cs : List Int) (k : Nat) (h : k < cs.length) : cs.take (k + 1) = cs.take k ++ [ln cs k] := by
  rw [List.take_add_one, List.getElem?_eq_getElem h, ln_get h]; rfl

set_option maxHeartbeats 1000000 in
theorem law_SizeOrder (A : Option Addr) (n c : Nat) (cs : List Int) (w : World) (HR : ReadsInt w .u16 A n cs) (hcs : ∀ x ∈ cs, 0 ≤ x ∧ x ≤ 65535) :
    Calls Try.prog 10 #[.slice A n c] w fun e w' => e = .returned (.bool true) ∧ Below w.heap.size w w' := by
  have HRR := Lib.hid HR; have HL := Lib.hid HR.1; have HC := Lib.hid hcs
  have hmx := HR.2.1
  clear HR hcs
  by_cases hbig : 100 < n
  · go_enter Try.func10, Try.ntmps10
    go_wp2_with fail
    refine (answers06 _).mono ?_
    rintro e w1 ⟨rfl, hB⟩
    have HB := Lib.hid hB
    clear hB
    go_wp2_with fail
    go_ret
    exact ⟨rfl, HB.out⟩
  · go_enter Try.func10, Try.ntmps10
    go_wp2_with fail
    go_loopw [3, 4] (fun v i wr => ∃ k : Nat, k ≤ n ∧ i = .int .i64 k ∧ Hid (wr.ownsRow w.heap.size 3 1 v k (nums .i64 (cs.take k))) ∧ Hid (Below w.heap.size w wr)) (fun _ i _ => n - (intOf i).toNat)
    case atStart => exact ⟨0, Nat.zero_le _, rfl, own_nil _ _ _ _, Below.refl _ _⟩
    case round =>
      obtain ⟨k, hk, rfl, HO, HB⟩ := hrel
      have hbs := HB.out.size
      by_cases hlt : k < n
      · obtain ⟨ad, hA, hcell⟩ := ReadsInt.at_ (HRR.out.below HB.out) (k : Int) (by omega) (by omega)
        rw [Int.toNat_natCast, rd_lnS] at hcell
        subst hA
        have hkl : k < cs.length := by have := HL.out; omega
        have hln := HC.out _ (ln_mem hkl)
        have HTK := Lib.hid (take_ln cs k hkl)
        generalize ln cs k = x at *
        have hO := HO.out
        have hlen : (cs.take k).length = k := by rw [List.length_take]; omega
        have HLEN := Lib.hid hlen
        clear hlen hO
        go_wp2_with (at_builtin; refine print_append_num w.heap.size rfl _ _ 28 3 .i64 8 rfl Try.underlying28 info_int (by decide) _ (cs.take k) x rfl rfl (by rw [HLEN.out]; exact HO.out) HB.out hbs (by rw [HLEN.out]; omega) ?_)
        intro v1 w1 hown hB1 hg hat
        have HO1 := Lib.hid hown; have HB1 := Lib.hid hB1
        clear hown hB1 hg hat hcell
        go_wp2_with fail
        go_roundw
        case rel => exact ⟨k + 1, by omega, by go_num, by show World.ownsRow _ _ _ _ _ _ _; rw [HTK.out]; have h := HO1.out; rw [show min k cs.length = k from by omega] at h; exact h, HB1.out⟩
        case measure => simp [intOf]; omega
      · obtain rfl : k = n := by omega
        have hO := HO.out
        rw [List.take_of_length_le (by have := HL.out; omega)] at hO
        have hok := okS_small cs 15 (by have := HL.out; simp; omega) (by have := HL.out; omega) HC.out (by decide) (by decide)
        have HOK := Lib.hid hok
        obtain ⟨Ac, cc, rfl⟩ := own_slice hO
        have HO2 := Lib.hid hO
        clear HO hO hok
        go_wp2_with fail
        refine (best_any Ac k cc cs 15 wr (own_reads' HO2.out)).mono ?_
        rintro e w2 ⟨hB2, ⟨h, _⟩ | ⟨_, v, out, rfl, hO3, hI⟩⟩
        · rw [HOK.out] at h; cases h
        obtain ⟨A2, c2, rfl⟩ := own_slice hO3
        have HC2 := Lib.hid (pw_own_below HO2.out hB2)
        have HO3 := Lib.hid hO3
        have HB2 := Lib.hid (below_then HB.out HB.out.size hB2)
        have HORD := Lib.hid (show ∀ i j : Nat, i < k → j < k → 0 < ln cs j → ln cs j < ln cs i → ln out i ≤ ln out j from fun i j hi hj => best_order' hI i j (by have := HL.out; omega) (by have := HL.out; omega))
        clear hO3 hB2 hI
        go_wp2_with fail
        obtain ⟨wo, rfl⟩ : ∃ wo : World, wo = wr := ⟨_, rfl⟩
        go_loopw [7] (fun i wq => ∃ j : Nat, j ≤ k ∧ i = .int .i64 j ∧ Hid (∃ q, wq = w2.drewN q)) (fun i _ => k - (intOf i).toNat)
        case atStart => exact ⟨0, Nat.zero_le _, rfl, 0, rfl⟩
        case round =>
          obtain ⟨i, hi, rfl, HQ⟩ := hrel
          by_cases hlt2 : i < k
          · obtain ⟨ad1, hA1, hc1⟩ := ReadsInt.at_ (own_reads' HC2.out) (i : Int) (by omega) (by omega)
            obtain ⟨ad2, hA2, hc2⟩ := ReadsInt.at_ (own_reads' HO3.out) (i : Int) (by omega) (by omega)
            rw [Int.toNat_natCast, rd_lnS] at hc1 hc2
            subst hA1 hA2
            have HC1 := Lib.hid hc1; have HC2' := Lib.hid hc2
            clear hc1 hc2
            obtain ⟨q, hq⟩ := HQ.out
            subst hq
            clear HQ
            go_wp2_with fail
            go_loopw [8] (fun i wq => ∃ j : Nat, j ≤ k ∧ i = .int .i64 j ∧ Hid (∃ q, wq = w2.drewN q)) (fun i _ => k - (intOf i).toNat)
            case atStart => exact ⟨0, Nat.zero_le _, rfl, q, rfl⟩
            case round =>
              obtain ⟨j, hj, rfl, HQ⟩ := hrel
              by_cases hlt3 : j < k
              · obtain ⟨ad1, hA1, hc3⟩ := ReadsInt.at_ (own_reads' HC2.out) (j : Int) (by omega) (by omega)
                obtain ⟨ad2, hA2, hc4⟩ := ReadsInt.at_ (own_reads' HO3.out) (j : Int) (by omega) (by omega)
                rw [Int.toNat_natCast, rd_lnS] at hc3 hc4
                cases hA1; cases hA2
                have hord := HORD.out i j hlt2 hlt3
                have hc1 := HC1.out
                have hc2 := HC2'.out
                obtain ⟨q2, hq2⟩ := HQ.out
                subst hq2
                clear HQ
                have hi1 : (i : Int) < (k : Int) := by omega
                have hj1 : (j : Int) < (k : Int) := by omega
                generalize ln cs i = x at *
                generalize ln cs j = y at *
                generalize ln out i = x2 at *
                generalize ln out j = y2 at *
                by_cases h1 : y < x
                · by_cases h2 : 0 < y
                  · have h3 : decide (y2 < x2) = false := by have := hord h2 h1; simp; omega
                    clear hord
                    go_wp2_with fail
                    go_quiet (fail)
                    go_wp2_with fail
                    go_roundw
                    case rel => exact ⟨j + 1, by omega, by go_num, by exact ⟨q2 + nq, rfl⟩⟩
                    case measure => simp [intOf]; omega
                  · have h3 : decide (0 < y) = false := by simp; omega
                    clear hord h2
                    go_wp2_with fail
                    go_quiet (fail)
                    go_wp2_with fail
                    go_roundw
                    case rel => exact ⟨j + 1, by omega, by go_num, by exact ⟨q2 + nq, rfl⟩⟩
                    case measure => simp [intOf]; omega
                · have h3 : decide (y < x) = false := by simp; omega
                  clear hord h1
                  go_wp2_with fail
                  go_quiet (fail)
                  go_wp2_with fail
                  go_roundw
                  case rel => exact ⟨j + 1, by omega, by go_num, by exact ⟨q2 + nq, rfl⟩⟩
                  case measure => simp [intOf]; omega
              · go_wp2_with fail
                go_roundw
                case rel => exact ⟨i + 1, by omega, by go_num, HQ.out⟩
                case measure => simp [intOf]; omega
          · obtain ⟨q, hq⟩ := HQ.out
            subst hq
            clear HQ
            go_wp2_with fail
            refine (answers06 _).mono ?_
            rintro e w3 ⟨rfl, hB3⟩
            have HB3 := Lib.hid (below_then (pw_below_drewN HB2.out q) (by rw [heap_drewN]; exact HB2.out.size) hB3)
            clear hB3
            go_wp2_with fail
            go_ret
            exact ⟨rfl, HB3.out⟩
end Go.Proofs.Ytoanhnebalapeaa
