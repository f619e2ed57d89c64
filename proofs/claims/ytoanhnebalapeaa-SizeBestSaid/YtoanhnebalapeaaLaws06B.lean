/- The law SizeBest. -/
import Derived.Test.YtoanhnebalapeaaLaws06
import Derived.Test.YtoanhnebalapeaaLaws06C
import Derived.Test.YtoanhnebalapeaaCode
import Derived.BigQuiet
namespace Go.Proofs.Ytoanhnebalapeaa
open Go.RowKit
open Go.Proofs.YtoanhnebalapeaaW.PrintWords
open Srt Sz

def mayUp (cs : List Int) (k : Nat) : Bool := !(cs.take k).any badCnt
theorem mayUp_succ {cs : List Int} {k : Nat} (hk : k < cs.length) : mayUp cs (k + 1) = (mayUp cs k && !badCnt (ln cs k)) := by
  unfold mayUp; rw [cnt_up cs k hk, Bool.not_or]

theorem and_most : ∀ t : Fin 16, bits BinOp.and .i64 ((t.val : Nat) : Int) 31 = ((t.val : Nat) : Int) := by decide
theorem shl_most {most : Int} (h1 : 1 ≤ most) (h2 : most ≤ 15) : wrap64 (2 ^ min (IntKind.u64.wrap (bits BinOp.and .i64 most 31)).toNat 64) = 2 ^ most.toNat := by
  obtain ⟨t, rfl⟩ : ∃ t : Nat, most = t := ⟨most.toNat, by omega⟩
  have e := and_most ⟨t, by omega⟩
  dsimp only at e
  have e2 : IntKind.u64.wrap (t : Int) = t := by rw [IntWalk.u64_in _ (by omega)]
  rw [e, e2, Int.toNat_natCast, Nat.min_eq_left (by omega)]
  have h3 : (2 : Nat) ^ t ≤ 2 ^ 15 := Nat.pow_le_pow_right (by decide) (by omega)
  have h4 : (2 : Int) ^ t = ((2 ^ t : Nat) : Int) := by norm_cast
  rw [h4]
  generalize 2 ^ t = z at *
  exact w64 _ (by omega) (by omega)

set_option maxRecDepth 100000 in
set_option maxHeartbeats 4000000 in
theorem law_SizeBest (A : Option Addr) (n c : Nat) (cs : List Int) (most : Int) (w : World) (HR : ReadsInt w .i64 A n cs) :
    Calls Try.prog 8 #[.slice A n c, .int .i64 most] w fun e w' => e = .returned (.bool true) ∧ Below w.heap.size w w' := by
  have HRR := Lib.hid HR; have HL := Lib.hid HR.1
  have hmx := HR.2.1
  clear HR
  by_cases hbig : 400 < n
  · go_enter Try.func8, Try.ntmps8
    go_wp2_with fail
    refine (answers06 _).mono ?_
    rintro e w1 ⟨rfl, hB⟩
    have HB := Lib.hid hB
    clear hB
    go_wp2_with fail
    go_ret
    exact ⟨rfl, HB.out⟩
  have hn4 : n ≤ 400 := by omega
  by_cases hm : 1 ≤ most ∧ most ≤ 15
  · obtain ⟨hm1, hm2⟩ := hm
    go_enter Try.func8, Try.ntmps8
    go_wp2_with (at_builtin; refine print_append_row w.heap.size rfl _ _ 28 3 .i64 8 rfl Try.underlying28 info_int (by decide) _ [] cs A n c rfl rfl (by exact own_lit w w.heap.size 3 .i64 [] (Nat.le_refl _) (by decide)) (by exact HRR.out.below ((Below.refl _ w).alloc (Nat.le_refl _) _)) ((Below.refl _ w).alloc (Nat.le_refl _) _) (by simp) (by simp; omega) ?_)
    intro v1 w1 hown hB1 _ _
    obtain ⟨A1, c1, rfl, hR1⟩ := own_reads hown
    have HR1 := Lib.hid hR1; have HB1 := Lib.hid hB1; have HR2 := Lib.hid (HRR.out.below hB1)
    clear hown hB1 hR1
    rw [HL.out] at HR1 ⊢
    go_wp2_with fail
    refine (best_any A1 n c1 cs most _ HR1.out).mono ?_
    rintro e w2 ⟨hB2, HX⟩
    have HB2 := Lib.hid (below_then HB1.out HB1.out.size hB2); have HR3 := Lib.hid (HR2.out.below hB2)
    obtain ⟨v, er, rfl, HY⟩ : ∃ v er, e = .returned (.tuple #[v, .int .i64 er]) ∧ ((okS cs most = false ∧ v = .slice none 0 0 ∧ er = 1) ∨ (okS cs most = true ∧ er = 0 ∧ ∃ out, w2.ownsRow w1.heap.size 3 1 v n (nums .i64 out) ∧ BestIs cs most out)) := by
      rcases HX with ⟨h1, rfl⟩ | ⟨h1, v, out, rfl, h2, h3⟩
      · exact ⟨_, _, rfl, .inl ⟨h1, rfl, rfl⟩⟩
      · exact ⟨_, _, rfl, .inr ⟨h1, rfl, out, h2, h3⟩⟩
    have HXX := Lib.hid HY
    clear hB2 HX HR1 HR2 HB1 HRR HY
    go_wp2_with fail
    go_loopw [7, 8, 9] (fun m s i wr => ∃ (k : Nat) (b : Bool), k ≤ n ∧ m = .bool b ∧ s = .int .i64 (mnUp cs k : Nat) ∧ i = .int .i64 k ∧ Hid (b = mayUp cs k) ∧ Hid (∃ q, wr = w2.drewN q)) (fun _ _ i _ => n - (intOf i).toNat)
    case atStart => exact ⟨0, true, Nat.zero_le _, rfl, rfl, rfl, rfl, 0, rfl⟩
    case round =>
      obtain ⟨k, b, hk, rfl, rfl, rfl, HM, HQ⟩ := hrel
      have hmk := mnUp_le cs k
      by_cases hlt : k < n
      · obtain ⟨ad, hA, hcell⟩ := ReadsInt.at_ HR3.out (k : Int) (by omega) (by omega)
        rw [Int.toNat_natCast, rd_lnS] at hcell
        subst hA
        have hcr : wr.cell? (ad.add k) = some (.int .i64 (ln cs k)) := by obtain ⟨q, e⟩ := HQ.out; rw [e]; simpa using hcell
        have HN := Lib.hid (mnUp_succ cs k)
        have HM2 := Lib.hid (mayUp_succ (cs := cs) (k := k) (by have := HL.out; omega))
        have hk0 : (0 : Int) ≤ (k : Int) := by omega
        have hkn : (k : Int) < (n : Int) := by omega
        have hbc : badCnt (ln cs k) = (decide (ln cs k < 0) || decide (4294967296 < ln cs k)) := rfl
        have HBC := Lib.hid hbc
        clear hcell hbc
        generalize ln cs k = x at *
        generalize mnUp cs k = s at *
        have hnx : IntKind.i64.wrap ((s : Int) + 1) = (s : Int) + 1 := by rw [IntWalk.i64_in _ (by omega)]
        by_cases hp : 0 < x
        · have HS1 := Lib.hid (show mnUp cs (k + 1) = s + 1 from by rw [HN.out, if_pos hp])
          cases b with
          | false =>
            have HF := Lib.hid (show false = mayUp cs (k + 1) from by rw [HM2.out, ← HM.out, HBC.out]; rfl)
            clear HN HM2 HBC HM
            go_wp2_with fail
            go_roundw
            case rel => exact ⟨k + 1, _, by omega, rfl, by rw [HS1.out]; go_num, by go_num, HF.out, HQ.out⟩
            case measure => simp [intOf]; omega
          | true =>
            have HF := Lib.hid (show decide (x ≤ 4294967296) = mayUp cs (k + 1) from by rw [HM2.out, ← HM.out, HBC.out]; by_cases h : x ≤ 4294967296 <;> simp [h] <;> omega)
            clear HN HM2 HBC HM
            go_wp2_with fail
            go_roundw
            case rel => exact ⟨k + 1, _, by omega, rfl, by rw [HS1.out]; go_num, by go_num, HF.out, HQ.out⟩
            case measure => simp [intOf]; omega
        · have HS1 := Lib.hid (show mnUp cs (k + 1) = s from by rw [HN.out, if_neg hp]; rfl)
          cases b with
          | false =>
            have HF := Lib.hid (show false = mayUp cs (k + 1) from by rw [HM2.out, ← HM.out, HBC.out]; rfl)
            clear HN HM2 HBC HM
            go_wp2_with fail
            go_roundw
            case rel => exact ⟨k + 1, _, by omega, rfl, by rw [HS1.out], by go_num, HF.out, HQ.out⟩
            case measure => simp [intOf]; omega
          | true =>
            by_cases hx : x < 0
            · have HF := Lib.hid (show false = mayUp cs (k + 1) from by rw [HM2.out, ← HM.out, HBC.out]; simp; omega)
              clear HN HM2 HBC HM
              go_wp2_with fail
              go_roundw
              case rel => exact ⟨k + 1, _, by omega, rfl, by rw [HS1.out], by go_num, HF.out, HQ.out⟩
              case measure => simp [intOf]; omega
            · have HF := Lib.hid (show decide (x ≤ 4294967296) = mayUp cs (k + 1) from by rw [HM2.out, ← HM.out, HBC.out]; by_cases h : x ≤ 4294967296 <;> simp [h] <;> omega)
              clear HN HM2 HBC HM
              go_wp2_with fail
              go_roundw
              case rel => exact ⟨k + 1, _, by omega, rfl, by rw [HS1.out], by go_num, HF.out, HQ.out⟩
              case measure => simp [intOf]; omega
      · obtain rfl : k = n := by omega
        have HOK := Lib.hid (show okS cs most = (b && decide ((mnUp cs k : Int) ≤ 2 ^ most.toNat)) from by
          unfold okS
          have hcl := HL.out
          rw [HM.out, decide_eq_true (show 1 ≤ most ∧ most ≤ 15 ∧ cs.length ≤ 4096 from ⟨hm1, hm2, by omega⟩)]
          unfold mayUp many
          rw [List.take_of_length_le (by omega), hcl]; rfl)
        cases b with
        | false =>
          obtain ⟨_, rfl, rfl⟩ := HXX.out.resolve_right (fun h => by have := h.1; rw [HOK.out] at this; cases this)
          go_wp2_with fail
          refine (answers06 _).mono ?_
          rintro e w5 ⟨rfl, hB⟩
          have HB5 := Lib.hid (show Below w.heap.size w w5 from by obtain ⟨q, e⟩ := HQ.out; subst e; exact below_then (pw_below_drewN HB2.out q) (pw_below_drewN HB2.out q).size hB)
          clear hB HXX
          go_wp2_with fail
          go_ret
          exact ⟨rfl, HB5.out⟩
        | true =>
          obtain ⟨P, hP, hP2⟩ : ∃ P : Int, wrap64 (2 ^ min (IntKind.u64.wrap (bits BinOp.and .i64 most 31)).toNat 64) = P ∧ P = 2 ^ most.toNat := ⟨_, rfl, shl_most hm1 hm2⟩
          have HP2 := Lib.hid hP2
          clear hP2
          have HBw := Lib.hid (show Below w.heap.size w wr from by obtain ⟨q, e⟩ := HQ.out; subst e; exact pw_below_drewN HB2.out q)
          by_cases hle : P < (mnUp cs k : Int)
          · have HNO := Lib.hid (show okS cs most = false from by rw [HOK.out, decide_eq_false (by rw [← HP2.out]; omega)]; rfl)
            obtain ⟨_, rfl, rfl⟩ := HXX.out.resolve_right (fun h => by have := h.1; rw [HNO.out] at this; cases this)
            have hd : decide (P < (mnUp cs k : Int)) = true := decide_eq_true hle
            clear HXX hle
            go_wp2_with fail
            refine (answers06 _).mono ?_
            rintro e w5 ⟨rfl, hB⟩
            have HB5 := Lib.hid (below_then HBw.out HBw.out.size hB)
            clear hB
            go_wp2_with fail
            go_ret
            exact ⟨rfl, HB5.out⟩
          have HYES := Lib.hid (show okS cs most = true from by rw [HOK.out, decide_eq_true (by rw [← HP2.out]; omega)]; rfl)
          obtain ⟨_, rfl, out, hO2, hI⟩ := HXX.out.resolve_left (fun h => by have := h.1; rw [HYES.out] at this; cases this)
          have HI := Lib.hid hI
          have hd : decide (P < (mnUp cs k : Int)) = false := decide_eq_false hle
          obtain ⟨A2, c2, rfl, hRo⟩ := own_reads hO2
          have HOw := Lib.hid (show ReadsInt wr .i64 A2 k out from by obtain ⟨q, e⟩ := HQ.out; subst e; exact hRo.drewN q)
          have HRw := Lib.hid (show ReadsInt wr .i64 A k cs from by obtain ⟨q, e⟩ := HQ.out; subst e; exact HR3.out.drewN q)
          clear HXX hle hO2 hI hRo HR3 HQ HB2
          go_wp2_with fail
          refine (answers06 _).mono ?_
          rintro e w5 ⟨rfl, hB⟩
          have HB5 := Lib.hid (below_then HBw.out HBw.out.size hB); have HO5 := Lib.hid (ReadsInt.below HOw.out hB); have HR5 := Lib.hid (ReadsInt.below HRw.out hB)
          clear hB HBw HOw HRw
          obtain ⟨S, hS⟩ : ∃ S, mnUp cs k = S := ⟨_, rfl⟩
          rw [hS] at hmk hd ⊢
          have HS := Lib.hid (show many cs = S from by unfold many; rw [HL.out]; exact hS)
          clear hS
          go_wp2_with fail
          go_loopw [10] (fun i wr => ∃ t : Nat, t ≤ k ∧ i = .int .i64 t ∧ Hid (∃ q, wr = w5.drewN q)) (fun i _ => k - (intOf i).toNat)
          case atStart => exact ⟨0, by omega, rfl, 0, rfl⟩
          case round =>
            obtain ⟨t, ht, rfl, HQ⟩ := hrel
            have HO6 := Lib.hid (show ReadsInt wr .i64 A2 k out from by obtain ⟨q, e⟩ := HQ.out; subst e; exact HO5.out.drewN q)
            have HR6 := Lib.hid (show ReadsInt wr .i64 A k cs from by obtain ⟨q, e⟩ := HQ.out; subst e; exact HR5.out.drewN q)
            have HB6 := Lib.hid (show Below w.heap.size w wr from by obtain ⟨q, e⟩ := HQ.out; subst e; exact pw_below_drewN HB5.out q)
            by_cases htk : t < k
            · obtain ⟨ad, hA, hcell⟩ := ReadsInt.at_ HR6.out (t : Int) (by omega) (by omega)
              obtain ⟨bd, hB, hcelb⟩ := ReadsInt.at_ HO6.out (t : Int) (by omega) (by omega)
              rw [Int.toNat_natCast, rd_lnS] at hcell hcelb
              subst hA hB
              have hbl := best_lens HYES.out HI.out t
              rw [HS.out] at hbl
              generalize ln cs t = y at *
              generalize ln out t = x at *
              obtain ⟨b1, b2, b3, b4⟩ := hbl
              have d1 : decide (x < 0) = false := decide_eq_false (by omega)
              have d2 : decide (most < x) = false := decide_eq_false (by omega)
              have ht0 : (0 : Int) ≤ (t : Int) := by omega
              have htk' : (t : Int) < (k : Int) := by omega
              by_cases hS1 : S = 1
              · have d4 : ((S : Int) == 1) = true := by simp [hS1]
                have d5 : decide (1 < x) = false := decide_eq_false (by have := b4 (by omega); omega)
                by_cases h0 : 0 < x
                · have d6 : decide (0 < x) = true := decide_eq_true h0
                  have d7 : decide (0 < y) = true := decide_eq_true (b3.1 h0)
                  clear b1 b2 b3 b4 h0 hS1
                  go_wp2_with fail
                  go_quiet (fail)
                  go_wp2_with fail
                  go_roundw
                  case rel => exact ⟨t + 1, by omega, by go_num, by obtain ⟨q, e⟩ := HQ.out; exact ⟨_, by rw [e, World.drewN_drewN]⟩⟩
                  case measure => simp [intOf]; omega
                · have d6 : decide (0 < x) = false := decide_eq_false h0
                  have d7 : decide (0 < y) = false := decide_eq_false (fun h => h0 (b3.2 h))
                  clear b1 b2 b3 b4 h0 hS1
                  go_wp2_with fail
                  go_quiet (fail)
                  go_wp2_with fail
                  go_roundw
                  case rel => exact ⟨t + 1, by omega, by go_num, by obtain ⟨q, e⟩ := HQ.out; exact ⟨_, by rw [e, World.drewN_drewN]⟩⟩
                  case measure => simp [intOf]; omega
              · have d4 : ((S : Int) == 1) = false := by simp; omega
                by_cases h0 : 0 < x
                · have d6 : decide (0 < x) = true := decide_eq_true h0
                  have d7 : decide (0 < y) = true := decide_eq_true (b3.1 h0)
                  clear b1 b2 b3 b4 h0 hS1
                  go_wp2_with fail
                  go_quiet (fail)
                  go_wp2_with fail
                  go_roundw
                  case rel => exact ⟨t + 1, by omega, by go_num, by obtain ⟨q, e⟩ := HQ.out; exact ⟨_, by rw [e, World.drewN_drewN]⟩⟩
                  case measure => simp [intOf]; omega
                · have d6 : decide (0 < x) = false := decide_eq_false h0
                  have d7 : decide (0 < y) = false := decide_eq_false (fun h => h0 (b3.2 h))
                  clear b1 b2 b3 b4 h0 hS1
                  go_wp2_with fail
                  go_quiet (fail)
                  go_wp2_with fail
                  go_roundw
                  case rel => exact ⟨t + 1, by omega, by go_num, by obtain ⟨q, e⟩ := HQ.out; exact ⟨_, by rw [e, World.drewN_drewN]⟩⟩
                  case measure => simp [intOf]; omega
            · obtain rfl : t = k := by omega
              obtain ⟨M, rfl⟩ : ∃ M : Nat, most = M := ⟨most.toNat, by omega⟩
              have hM1 : 1 ≤ M := by omega
              have hM2 : M ≤ 15 := by omega
              obtain ⟨C, hC⟩ := best_coins HYES.out HI.out
              rw [Int.toNat_natCast] at hC
              have HC := Lib.hid hC
              have HTT := Lib.hid (show totS cs out (min t t) = tt cs out from by
                rw [Nat.min_self]
                exact totS_tt HL.out (by omega) (okS_room HYES.out).2.2.2 (fun s => by have := best_lens HYES.out HI.out s; omega))
              clear hC hP hd HQ HO5 HR5 HB5
              by_cases hS0 : S = 0
              · have d0 : ((S : Int) == 0) = true := by simp [hS0]
                go_wp2_with fail
                refine (total_size A A2 t c t c2 cs out _ HR6.out HO6.out).mono ?_
                rintro e w7 ⟨rfl, q7, rfl⟩
                rw [HTT.out]
                go_wp2_with fail
                refine (least_any A t c cs M _ C (HR6.out.drewN q7) hn4 hM1 hM2 HC.out.1 (by have h := HC.out.2.1; rw [HL.out] at h; exact h) HC.out.2.2.1 HC.out.2.2.2.1).mono ?_
                rintro e w8 ⟨hB8, vv, rfl, h1, h2, h3⟩
                obtain rfl := HC.out.2.2.2.2 vv h1 h2 h3
                have HB8 := Lib.hid (below_then (pw_below_drewN HB6.out q7) (pw_below_drewN HB6.out q7).size hB8)
                clear h1 h2 h3 hB8
                go_wp2_with fail
                go_ret
                exact ⟨by simp, HB8.out⟩
              · have d0 : ((S : Int) == 0) = false := by simp; omega
                go_wp2_with fail
                refine (refCheck_any A2 t c2 out _ HO6.out (by omega)).mono ?_
                rintro e w6 ⟨rfl, rfl⟩
                rw [best_check HYES.out HI.out (by rw [HS.out]; omega)]
                go_wp2_with fail
                refine (total_size A A2 t c t c2 cs out _ HR6.out HO6.out).mono ?_
                rintro e w7 ⟨rfl, q7, rfl⟩
                rw [HTT.out]
                go_wp2_with fail
                refine (least_any A t c cs M _ C (HR6.out.drewN q7) hn4 hM1 hM2 HC.out.1 (by have h := HC.out.2.1; rw [HL.out] at h; exact h) HC.out.2.2.1 HC.out.2.2.2.1).mono ?_
                rintro e w8 ⟨hB8, vv, rfl, h1, h2, h3⟩
                obtain rfl := HC.out.2.2.2.2 vv h1 h2 h3
                have HB8 := Lib.hid (below_then (pw_below_drewN HB6.out q7) (pw_below_drewN HB6.out q7).size hB8)
                clear h1 h2 h3 hB8
                go_wp2_with fail
                go_ret
                exact ⟨by simp, HB8.out⟩
  have HNO := Lib.hid (show okS cs most = false from by unfold okS; rw [decide_eq_false (fun h => hm ⟨h.1, h.2.1⟩)]; rfl)
  rcases (show most < 1 ∨ (1 ≤ most ∧ 15 < most) from by omega) with hm1 | ⟨hm1, hm2⟩
  all_goals
    clear hm
    go_enter Try.func8, Try.ntmps8
    go_wp2_with (at_builtin; refine print_append_row w.heap.size rfl _ _ 28 3 .i64 8 rfl Try.underlying28 info_int (by decide) _ [] cs A n c rfl rfl (by exact own_lit w w.heap.size 3 .i64 [] (Nat.le_refl _) (by decide)) (by exact HRR.out.below ((Below.refl _ w).alloc (Nat.le_refl _) _)) ((Below.refl _ w).alloc (Nat.le_refl _) _) (by simp) (by simp; omega) ?_)
    intro v1 w1 hown hB1 _ _
    obtain ⟨A1, c1, rfl, hR1⟩ := own_reads hown
    have HR1 := Lib.hid hR1; have HB1 := Lib.hid hB1; have HR2 := Lib.hid (HRR.out.below hB1)
    clear hown hB1 hR1
    rw [HL.out] at HR1 ⊢
    go_wp2_with fail
    refine (best_any A1 n c1 cs most _ HR1.out).mono ?_
    rintro e w2 ⟨hB2, HX⟩
    have HB2 := Lib.hid (below_then HB1.out HB1.out.size hB2); have HR3 := Lib.hid (HR2.out.below hB2)
    obtain rfl : e = .returned (.tuple #[.slice none 0 0, .int .i64 1]) := by
      rcases HX with ⟨_, h⟩ | ⟨h, _⟩
      · exact h
      · rw [HNO.out] at h; cases h
    clear hB2 HX HR1 HR2 HB1 HRR
    go_wp2_with fail
    go_loopw [7, 8, 9] (fun m s i wr => ∃ k : Nat, k ≤ n ∧ m = .bool false ∧ s = .int .i64 (mnUp cs k : Nat) ∧ i = .int .i64 k ∧ Hid (∃ q, wr = w2.drewN q)) (fun _ _ i _ => n - (intOf i).toNat)
    case atStart => exact ⟨0, Nat.zero_le _, by first | rfl | exact congrArg Value.bool (decide_eq_false (by omega)), rfl, rfl, 0, rfl⟩
    case round =>
      obtain ⟨k, hk, rfl, rfl, rfl, HQ⟩ := hrel
      have hmk := mnUp_le cs k
      by_cases hlt : k < n
      · obtain ⟨ad, hA, hcell⟩ := ReadsInt.at_ HR3.out (k : Int) (by omega) (by omega)
        rw [Int.toNat_natCast, rd_lnS] at hcell
        subst hA
        have hcr : wr.cell? (ad.add k) = some (.int .i64 (ln cs k)) := by obtain ⟨q, e⟩ := HQ.out; rw [e]; simpa using hcell
        have HN := Lib.hid (mnUp_succ cs k)
        have hk0 : (0 : Int) ≤ (k : Int) := by omega
        have hkn : (k : Int) < (n : Int) := by omega
        clear hcell
        generalize ln cs k = x at *
        generalize mnUp cs k = s at *
        have hnx : IntKind.i64.wrap ((s : Int) + 1) = (s : Int) + 1 := by rw [IntWalk.i64_in _ (by omega)]
        by_cases hp : 0 < x
        · have HS1 := Lib.hid (show mnUp cs (k + 1) = s + 1 from by rw [HN.out, if_pos hp])
          clear HN
          go_wp2_with fail
          go_roundw
          case rel => exact ⟨k + 1, by omega, rfl, by rw [HS1.out]; go_num, by go_num, HQ.out⟩
          case measure => simp [intOf]; omega
        · have HS1 := Lib.hid (show mnUp cs (k + 1) = s from by rw [HN.out, if_neg hp]; rfl)
          clear HN
          go_wp2_with fail
          go_roundw
          case rel => exact ⟨k + 1, by omega, rfl, by rw [HS1.out], by go_num, HQ.out⟩
          case measure => simp [intOf]; omega
      · obtain rfl : k = n := by omega
        go_wp2_with fail
        refine (answers06 _).mono ?_
        rintro e w5 ⟨rfl, hB⟩
        have HB5 := Lib.hid (show Below w.heap.size w w5 from by obtain ⟨q, e⟩ := HQ.out; subst e; exact below_then (pw_below_drewN HB2.out q) (pw_below_drewN HB2.out q).size hB)
        clear hB
        go_wp2_with fail
        go_ret
        exact ⟨rfl, HB5.out⟩
end Go.Proofs.Ytoanhnebalapeaa
