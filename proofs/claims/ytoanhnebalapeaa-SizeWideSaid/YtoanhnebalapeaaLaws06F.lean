/- The law SizeFlat. -/
import Derived.Test.YtoanhnebalapeaaLaws06
import Derived.Test.YtoanhnebalapeaaLaws06A
namespace Go.Proofs.Ytoanhnebalapeaa
open Go.RowKit
open Go.Proofs.YtoanhnebalapeaaW.PrintWords
open Srt Sz

theorem rep_snoc (k : Nat) (v : Int) : List.replicate k v ++ [v] = List.replicate (k + 1) v := by
  rw [List.replicate_succ', ]
theorem many_le (cs : List Int) : many cs ≤ cs.length := mnUp_le cs cs.length
theorem okS_rep (q : Nat) (v most : Int) (hv : 0 ≤ v ∧ v ≤ 65536) (hq : q ≤ 12) (h1 : (q : Int) ≤ most) (h2 : 1 ≤ most) (h3 : most ≤ 15) : okS (List.replicate (2 ^ q) v) most = true := by
  have hl : (2 : Nat) ^ q ≤ 2 ^ 12 := Nat.pow_le_pow_right (by decide) hq
  have hm := many_le (List.replicate (2 ^ q) v)
  rw [List.length_replicate] at hm
  have hp : ((2 ^ q : Nat) : Int) ≤ 2 ^ most.toNat := by
    have : (2 : Nat) ^ q ≤ 2 ^ most.toNat := Nat.pow_le_pow_right (by decide) (by omega)
    exact_mod_cast this
  unfold okS
  rw [decide_eq_true (show 1 ≤ most ∧ most ≤ 15 ∧ (List.replicate (2 ^ q) v).length ≤ 4096 from ⟨h2, h3, by rw [List.length_replicate]; omega⟩), decide_eq_true (show (many (List.replicate (2 ^ q) v) : Int) ≤ 2 ^ most.toNat from by omega)]
  have hb : (List.replicate (2 ^ q) v).any badCnt = false := by
    rw [List.any_eq_false]
    intro y hy
    rw [List.eq_of_mem_replicate hy]
    simp [badCnt]; omega
  rw [hb]; rfl

set_option maxHeartbeats 1000000 in
theorem law_SizeFlat (a b x : Int) (w : World) (ha : 0 ≤ a ∧ a ≤ 255) (hb : 0 ≤ b ∧ b ≤ 255) (hx : 0 ≤ x ∧ x ≤ 255) :
    Calls Try.prog 12 #[.int .u8 a, .int .u8 b, .int .u8 x] w fun e w' => e = .returned (.bool true) ∧ Below w.heap.size w w' := by
  obtain ⟨q, hq⟩ : ∃ q : Nat, a % 7 = q := Int.eq_ofNat_of_zero_le (by omega)
  have hq1 : q ≤ 6 := by omega
  obtain ⟨t, ht⟩ : ∃ t : Nat, x % (16 - ((q : Int) + 1)) = t := Int.eq_ofNat_of_zero_le (Int.emod_nonneg _ (by omega))
  have ht1 : (t : Int) < 16 - ((q : Int) + 1) := by rw [← ht]; exact Int.emod_lt_of_pos _ (by omega)
  have hne : (16 - ((q : Int) + 1)) ≠ 0 := by omega
  obtain ⟨N, hN⟩ : ∃ N : Nat, N = 2 ^ (q + 1) := ⟨_, rfl⟩
  have hN1 : 2 ≤ N := by
    have : (2 : Nat) ^ 1 ≤ 2 ^ (q + 1) := Nat.pow_le_pow_right (by decide) (by omega)
    omega
  have hN2 : N ≤ 128 := by
    have : (2 : Nat) ^ (q + 1) ≤ 2 ^ 7 := Nat.pow_le_pow_right (by decide) (by omega)
    omega
  have hsh : wrap64 (2 ^ (q + 1)) = (N : Int) := by
    rw [show (2 : Int) ^ (q + 1) = (N : Int) from by rw [hN]; norm_cast]
    exact w64 _ (by omega) (by omega)
  have HQ := Lib.hid hq; have HT := Lib.hid ht; have HN := Lib.hid hN
  have HSH := Lib.hid hsh
  clear hq ht hN hsh
  go_enter Try.func12, Try.ntmps12
  go_wp2_with fail
  rw [HQ.out]
  go_loopw [8, 9] (fun v i wr => ∃ k : Nat, k ≤ N ∧ i = .int .i64 k ∧ Hid (wr.ownsRow w.heap.size 3 1 v k (nums .i64 (List.replicate k (b + 1)))) ∧ Hid (Below w.heap.size w wr)) (fun _ i _ => N - (intOf i).toNat)
  case atStart => exact ⟨0, Nat.zero_le _, rfl, own_nil _ _ _ _, Below.refl _ _⟩
  case round =>
    obtain ⟨k, hk, rfl, HO, HB⟩ := hrel
    have hsh := HSH.out
    have hbs := HB.out.size
    by_cases hlt : k < N
    · go_wp2_with (at_builtin; refine print_append_num w.heap.size rfl _ _ 28 3 .i64 8 rfl Try.underlying28 info_int (by decide) _ (List.replicate k (b + 1)) (b + 1) rfl rfl (by rw [List.length_replicate]; exact HO.out) HB.out hbs (by rw [List.length_replicate]; omega) ?_)
      intro v1 w1 hown hB1 hg hat
      have HO1 := Lib.hid hown; have HB1 := Lib.hid hB1
      clear hown hB1 hg hat
      go_wp2
      go_roundw
      case rel => exact ⟨k + 1, by omega, by go_num, by show World.ownsRow _ _ _ _ _ _ _; rw [← rep_snoc]; exact HO1.out, HB1.out⟩
      case measure => simp [intOf]; omega
    · obtain rfl : k = N := by omega
      obtain ⟨g, c, rfl, hg⟩ := own_someQ HO.out (by omega)
      go_wp2_with fail
      rw [HT.out, w64 ((q : Int) + 1 + (t : Int)) (by omega) (by omega)]
      have hokk := okS_rep (q + 1) (b + 1) (((q : Int) + 1) + (t : Int)) (by omega) (by omega) (by omega) (by omega) (by omega)
      rw [← HN.out] at hokk
      have HOK := Lib.hid hokk
      have HBW := Lib.hid HB.out
      clear hokk hsh HSH HQ HT hne
      refine (best_any (some ⟨g, 0, none⟩) k c (List.replicate k (b + 1)) _ wr (own_reads' HO.out)).mono ?_
      rintro e w2 ⟨hB2, ⟨h, _⟩ | ⟨_, v, out, rfl, hO2, hI⟩⟩
      · rw [HOK.out] at h; cases h
      obtain ⟨g2, c2, rfl, hg2⟩ := own_someQ hO2 (by omega)
      have hln : ∀ s, s < k → ln out s = ((q + 1 : Nat) : Int) := fun s hs => best_flat' hI (b + 1) (by omega) (q + 1) (by omega) (by rw [← HN.out]) (by omega) s (by rw [← HN.out]; exact hs)
      have HLN := Lib.hid hln; have HO2 := Lib.hid hO2
      have HB2 := Lib.hid (below_then HB.out HB.out.size hB2)
      have HB20 := Lib.hid hB2
      clear hln hO2 hI hB2
      go_wp2_with fail
      go_loopw [12] (fun i wq => ∃ j : Nat, j ≤ k ∧ i = .int .i64 j ∧ wq = w2) (fun i _ => k - (intOf i).toNat)
      case atStart => exact ⟨0, Nat.zero_le _, rfl, rfl⟩
      case round =>
        obtain ⟨j, hj, rfl, rfl⟩ := hrel
        by_cases hlt2 : j < k
        · obtain ⟨hc0, _⟩ := own_at HO2.out (j : Int) (by omega) (by omega)
          rw [Int.toNat_natCast] at hc0
          have e0 : rd out (j : Int) = (q : Int) + 1 := by rw [rd_lnS, HLN.out j hlt2]; omega
          rw [e0] at hc0
          clear e0
          go_wp2_with fail
          go_roundw
          case rel => exact ⟨j + 1, by omega, by go_num, trivial⟩
          case measure => simp [intOf]; omega
        · go_wp2_with fail
          refine (answers06 _).mono ?_
          rintro e w3 ⟨rfl, hB3⟩
          have HB3 := Lib.hid (below_then HB2.out HB2.out.size hB3)
          clear hB3
          go_wp2_with fail
          go_ret
          exact ⟨by simp, HB3.out⟩
end Go.Proofs.Ytoanhnebalapeaa
