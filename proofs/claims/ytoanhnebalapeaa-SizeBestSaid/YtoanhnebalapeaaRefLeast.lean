/- What the reference's Least does. -/
import Derived.Test.YtoanhnebalapeaaRefSort
import Derived.Deep.RegionHeld3
namespace Go.Proofs.Ytoanhnebalapeaa
open Go.RowKit
open Go.Proofs.YtoanhnebalapeaaW.PrintWords
open Srt Sz

/-- The counts that come, of the first k. -/
def pos (cs : List Int) (k : Nat) : List Int := (cs.take k).filter (fun x => decide (0 < x))
theorem pos_yes {cs : List Int} {k : Nat} (hk : k < cs.length) (h : 0 < ln cs k) : pos cs (k + 1) = pos cs k ++ [ln cs k] := by
  unfold pos; rw [List.take_add_one, List.getElem?_eq_getElem hk, List.filter_append, ln_get hk] at *; simp [h]
theorem pos_no {cs : List Int} {k : Nat} (hk : k < cs.length) (h : ¬ 0 < ln cs k) : pos cs (k + 1) = pos cs k := by
  unfold pos; rw [List.take_add_one, List.getElem?_eq_getElem hk, List.filter_append, ln_get hk] at *; simp [h]
theorem pos_len (cs : List Int) (k : Nat) : (pos cs k).length ≤ k := by
  unfold pos; exact Nat.le_trans (List.length_filter_le _ _) (by simp; omega)
theorem pairSum_snoc : ∀ (r : List Int) (j : Nat), 2 * j + 1 < r.length → (pairSum r).take (j + 1) = (pairSum r).take j ++ [ln r (2 * j) + ln r (2 * j + 1)]
  | [], j, h => by simp at h
  | [_], j, h => by simp at h
  | a :: b :: t, 0, h => by simp [pairSum, ln]
  | a :: b :: t, j + 1, h => by
    have := pairSum_snoc t j (by simp at h; omega)
    simp only [pairSum, List.take_succ_cons, List.cons_append]
    rw [this]
    simp [ln, show 2 * (j + 1) = 2 * j + 1 + 1 from by omega]
theorem pairSum_all (r : List Int) (j : Nat) (h : r.length ≤ 2 * j + 1) : (pairSum r).take j = pairSum r := List.take_of_length_le (by rw [pairSum_length]; omega)
theorem pm_top (C : List Pk) (h : ∀ x ∈ C, 0 ≤ x.sum ∧ x.sum ≤ 4294967296) : ∀ k, ∀ x ∈ pm C k, 0 ≤ x.sum ∧ x.sum ≤ 4294967296 * 2 ^ k
  | 0 => fun x hx => by have := h x hx; omega
  | k + 1 => fun x hx => by
    rw [pm_succ] at hx
    have hp : (4294967296 : Int) ≤ 4294967296 * 2 ^ (k + 1) := by
      have : (0 : Int) < 2 ^ (k + 1) := Int.pow_pos (by decide)
      omega
    rcases mrg_mem hx with hx | hx
    · have := h x hx; omega
    · obtain ⟨a, b, ha, hb, e⟩ := pairUp_mem _ x hx
      have h1 := pm_top C h k a ha; have h2 := pm_top C h k b hb
      rw [e, Int.pow_succ]; omega
theorem rows_top {C : List Pk} (h : ∀ x ∈ C, 0 ≤ x.sum ∧ x.sum ≤ 4294967296) {k : Nat} (hk : k ≤ 14) (j : Nat) : 0 ≤ ln ((pm C k).map Pk.sum) j ∧ ln ((pm C k).map Pk.sum) j ≤ 70368744177664 := by
  by_cases hj : j < ((pm C k).map Pk.sum).length
  · obtain ⟨x, hx, e⟩ := List.mem_map.1 (ln_mem hj)
    have := pm_top C h k x hx
    have h2 : (2 : Int) ^ k ≤ 2 ^ 14 := by have := Nat.pow_le_pow_right (n := 2) (by decide) hk; exact_mod_cast this
    rw [← e]
    have h3 : (2 : Int) ^ 14 = 16384 := by decide
    omega
  · have : ln ((pm C k).map Pk.sum) j = 0 := by unfold ln; rw [List.getElem?_eq_none (by omega)]; rfl
    omega
theorem sum_snoc {r : List Int} {t : Nat} (h : t < r.length) : (r.take (t + 1)).sum = (r.take t).sum + ln r t := by
  rw [List.take_add_one, List.getElem?_eq_getElem h, ln_get h]
  show (List.take t r ++ [r[t]]).sum = _
  rw [List.sum_append, List.sum_cons, List.sum_nil, Int.add_zero]
theorem own_ge {w : World} {base n size : Nat} {e : TypeId} {v : Value} {xs : List Value} (h : w.ownsRow base e size v n xs) : ∀ s ∈ v.ownBlock.toList, base ≤ s := by
  intro s hs
  rcases h.2 with ⟨rfl, _⟩ | ⟨g, cap, cur, rfl, hb, _⟩
  · simp [Value.ownBlock] at hs
  · simp [Value.ownBlock] at hs; omega
theorem own_base {w : World} {B B2 n size : Nat} {e : TypeId} {v : Value} {xs : List Value} (h : w.ownsRow B e size v n xs) (hB : B2 ≤ B) : w.ownsRow B2 e size v n xs := by
  refine ⟨h.1, ?_⟩
  rcases h.2 with h | ⟨g, cap, cur, h1, hb, h2⟩
  · exact .inl h
  · exact .inr ⟨g, cap, cur, h1, Nat.le_trans hB hb, h2⟩
theorem sums_take {r : List Int} (h : ∀ j, 0 ≤ ln r j ∧ ln r j ≤ 70368744177664) : ∀ t : Nat, t ≤ r.length → 0 ≤ (r.take t).sum ∧ (r.take t).sum ≤ 70368744177664 * t
  | 0, _ => by simp
  | t + 1, ht => by
    have h1 := sums_take h t (by omega); have h2 := h t
    rw [sum_snoc (by omega)]; omega
theorem tot_sums (l : List Pk) (m : Nat) : ((l.map Pk.sum).take m).sum = tot (l.take m) := by unfold tot; rw [List.map_take]

set_option maxRecDepth 100000 in
set_option maxHeartbeats 8000000 in
theorem least_any (A : Option Addr) (n c : Nat) (cs : List Int) (M : Nat) (w : World) (C : List Pk) (HR : ReadsInt w .i64 A n cs) (hn : n ≤ 400) (hM1 : 1 ≤ M) (hM2 : M ≤ 15) (hC : Up C) (hp : (C.map Pk.sum).Perm (pos cs n))
    (h0 : ∀ x ∈ C, 0 ≤ x.sum ∧ x.sum ≤ 4294967296) (hroom : 2 * C.length - 2 ≤ (pm C (M - 1)).length) :
    Calls Try.prog 35 #[.slice A n c, .int .i64 M] w fun e w' => Below w.heap.size w w' ∧ ∃ v, e = .returned (.int .i64 v) ∧ (C = [] → v = 0) ∧ (∀ x, C = [x] → v = x.sum) ∧ (2 ≤ C.length → v = tot ((pm C (M - 1)).take (2 * C.length - 2))) := by
  have HRR := Lib.hid HR; have HL := Lib.hid HR.1
  have HC := Lib.hid hC; have HP := Lib.hid hp; have H0 := Lib.hid h0; have HROOM := Lib.hid hroom
  clear HR hC hp h0 hroom
  go_enter Try.func35, Try.ntmps35
  go_wp2_with fail
  go_loopw [5, 6] (fun v i wr => ∃ k : Nat, k ≤ n ∧ i = .int .i64 k ∧ Hid (wr.ownsRow w.heap.size 3 1 v (pos cs k).length (nums .i64 (pos cs k))) ∧ Hid (Below w.heap.size w wr)) (fun _ i _ => n - (intOf i).toNat)
  case atStart => exact ⟨0, Nat.zero_le _, rfl, own_nil _ _ _ _, Below.refl _ _⟩
  case round =>
    obtain ⟨k, hk, rfl, HO, HB⟩ := hrel
    have hbs := HB.out.size
    have hpk := pos_len cs k
    by_cases hlt : k < n
    · obtain ⟨ad, hA, hcell⟩ := ReadsInt.at_ (ReadsInt.below HRR.out HB.out) (k : Int) (by omega) (by omega)
      rw [Int.toNat_natCast, rd_lnS] at hcell
      subst hA
      have hkl : k < cs.length := by have := HL.out; omega
      by_cases hp : 0 < ln cs k
      · have HN := Lib.hid (pos_yes hkl hp)
        go_wp2_with (at_builtin; refine print_append_num w.heap.size rfl _ _ 28 3 .i64 8 rfl Try.underlying28 info_int (by decide) _ (pos cs k) (ln cs k) rfl rfl (by exact HO.out) HB.out hbs (by omega) ?_)
        intro v1 w1 hown hB1 hg hat
        have HO1 := Lib.hid hown; have HB1 := Lib.hid hB1
        clear hown hB1 hg hat
        go_wp2
        go_roundw
        case rel => exact ⟨k + 1, by omega, by go_num, by show World.ownsRow _ _ _ _ _ _ _; rw [HN.out, List.length_append]; exact HO1.out, HB1.out⟩
        case measure => simp [intOf]; omega
      · have HN := Lib.hid (pos_no hkl hp)
        go_wp2
        go_roundw
        case rel => exact ⟨k + 1, by omega, by go_num, by show World.ownsRow _ _ _ _ _ _ _; rw [HN.out]; exact HO.out, HB.out⟩
        case measure => simp [intOf]; omega
    · obtain rfl : k = n := by omega
      obtain ⟨A1, c1, rfl, hR1⟩ := own_reads HO.out
      clear hR1
      go_wp2_with fail
      refine (sorted_any 400 A1 _ c1 (pos cs k) w.heap.size wr (by omega) (by omega) HO.out).mono ?_
      rintro e w3 ⟨rfl, ys, hys, hss, ho, hm⟩
      have hyC : ys = C.map Pk.sum := up_unique hss (List.pairwise_map.2 HC.out) (hys.trans HP.out.symm)
      subst hyC
      have HB3 := Lib.hid (Below.then_mods HB.out hbs hm (own_ge HO.out))
      have hml : (pos cs k).length = C.length := by rw [← HP.out.length_eq, List.length_map]
      have HO3 := Lib.hid ho
      have hz3 := hm.size
      clear hys hss ho hm HO HB HP HRR
      rw [hml] at HO3 hpk ⊢
      clear hml
      obtain ⟨m, hm⟩ : ∃ m, C.length = m := ⟨_, rfl⟩
      rw [hm] at HO3 hpk ⊢
      have HMM := Lib.hid hm
      by_cases hm0 : m = 0
      · have hd : ((m : Int) == 0) = true := by simp [hm0]
        go_wp2_with fail
        go_ret
        have hnil : C = [] := List.length_eq_zero_iff.1 (by omega)
        exact ⟨HB3.out, _, rfl, (fun _ => rfl), (fun x e => by rw [e] at hnil; cases hnil), (fun h => by omega)⟩
      have hd0 : ((m : Int) == 0) = false := by simp [hm0]
      obtain ⟨g1, c1', hv, hg1⟩ := own_someQ HO3.out (by omega)
      cases hv
      have hr1 := own_reads' HO3.out
      by_cases hm1 : m = 1
      · have hd1 : ((m : Int) == 1) = true := by simp [hm1]
        obtain ⟨ad, ha, hcell⟩ := hr1.2.2 (by omega)
        cases ha
        have hc0 := hcell 0 (by omega)
        rw [add_plain] at hc0
        obtain ⟨x, rfl⟩ := List.length_eq_one_iff.1 (hm.trans hm1)
        have hc1 : w3.cell? ⟨g1, 0, none⟩ = some (.int .i64 x.sum) := by simpa using hc0
        clear hcell hc0 hr1
        go_wp2_with fail
        go_ret
        exact ⟨HB3.out, _, rfl, (fun h => by cases h), (fun y e => by cases e; rfl), (fun h => by simp at h)⟩
      have hd1 : ((m : Int) == 1) = false := by simp; omega
      have HR1 := Lib.hid hr1
      have hm2 : 2 ≤ m := by omega
      clear hr1 hm hm0
      go_wp2_with (at_builtin; refine print_append_row w.heap.size rfl _ _ 28 3 .i64 8 rfl Try.underlying28 info_int (by decide) _ [] (C.map Pk.sum) (some ⟨g1, 0, none⟩) m c1 rfl rfl (by exact own_lit w3 w.heap.size 3 .i64 [] HB3.out.size (by decide)) (by exact HR1.out.below ((Below.refl _ w3).alloc (Nat.le_refl _) _)) (HB3.out.alloc HB3.out.size _) (by have := HB3.out.size; simp; omega) (by simp; omega) ?_)
      intro v2 w4 hown hB4 hg4 _
      have HO4 := Lib.hid (own_modsR (T := []) HO3.out (show Mods [] w3 w4 from (Mods.grown ((Mods.refl [] w3).alloc _) hg4 (fun k hk => by simp [Value.ownBlock] at hk; omega))) (by simp))
      have HV4 := Lib.hid hown; have HB4 := Lib.hid hB4
      rw [HMM.out] at HV4
      clear hown hB4 hg4 HR1 HB3 HO3 hz3 hbs HL
      obtain ⟨g2, c2, rfl, hg2⟩ := own_someQ HV4.out (by omega)
      go_wp2_with fail
      go_loopw [7, 8, 9, 10] (fun rv kk _ _ wr => ∃ (q L g2 c2 : Nat), q + 1 ≤ M ∧ kk = .int .i64 ((q + 1 : Nat) : Int) ∧ rv = .slice (some ⟨g2, 0, none⟩) L c2 ∧ 1 ≤ L ∧ Hid (L = (pm C q).length) ∧ Hid (wr.ownsRow w.heap.size 3 1 (.slice (some ⟨g2, 0, none⟩) L c2) L (nums .i64 ((pm C q).map Pk.sum))) ∧ Hid (wr.ownsRow w.heap.size 3 1 (.slice (some ⟨g1, 0, none⟩) m c1) m (nums .i64 (C.map Pk.sum))) ∧ Hid (Below w.heap.size w wr)) (fun _ kk _ _ _ => M - (intOf kk).toNat)
      case atStart => exact ⟨0, m, g2, c2, by omega, rfl, rfl, by omega, HMM.out.symm, HV4.out, HO4.out, HB4.out⟩
      case round =>
        clear HV4 HO4 HB4
        obtain ⟨q, L, g2, c2, hq, rfl, rfl, hL1, HLL, HROW, HONE, HB⟩ := hrel
        obtain ⟨W0, hW0⟩ : ∃ W0, W0 = wr := ⟨_, rfl⟩
        subst hW0
        have hbs := HB.out.size
        have hrow := own_reads' HROW.out
        have HLE := Lib.hid (pm_le C q)
        have hLm : L ≤ 2 * m := by have := HLE.out; have := HLL.out; have := HMM.out; omega
        have hg2l := own_lt HROW.out g2 rfl
        have hg1l := own_lt HONE.out g1 rfl
        by_cases hqM : q + 1 < M
        · go_wp2_with (at_builtin; refine print_append_row (w0 := W0) W0.heap.size rfl _ _ 28 3 .i64 8 rfl Try.underlying28 info_int (by decide) _ [] (C.map Pk.sum) (some ⟨g1, 0, none⟩) m c1 rfl rfl (by exact own_lit W0 W0.heap.size 3 .i64 [] (Nat.le_refl _) (by decide)) (by exact (own_reads' HONE.out).below ((Below.refl _ W0).alloc (Nat.le_refl _) _)) ((Below.refl _ W0).alloc (Nat.le_refl _) _) (by simp) (by simp; omega) ?_)
          intro v1 w1 hown hB1 _ _
          have HN1 := Lib.hid hown; have HB1 := Lib.hid hB1
          rw [HMM.out] at HN1
          clear hown hB1
          go_wp2_with fail
          go_loopw [9, 10] (fun nv i wr => ∃ j i2 : Nat, i2 = 2 * j ∧ i2 ≤ L ∧ i = .int .i64 i2 ∧ Hid (wr.ownsRow W0.heap.size 3 1 nv (m + j) (nums .i64 (C.map Pk.sum ++ (pairSum ((pm C q).map Pk.sum)).take j))) ∧ Hid (Below W0.heap.size W0 wr)) (fun _ i _ => L - (intOf i).toNat)
          case atStart => exact ⟨0, 0, rfl, by omega, rfl, by show World.ownsRow _ _ _ _ _ _ _; simpa using HN1.out, HB1.out⟩
          case round =>
            clear HN1 HB1
            obtain ⟨j, i2, hi2, hj, rfl, HN, HBZ⟩ := hrel
            have HI2 := Lib.hid hi2
            have hjm : j ≤ m := by omega
            have hjj : i2 = L ∨ i2 + 1 = L ∨ i2 + 1 < L := by omega
            clear hi2
            have hbz := HBZ.out.size
            have hw2 : IntKind.i64.wrap ((i2 : Int) + 1) = (i2 : Int) + 1 := by rw [IntWalk.i64_in _ (by omega)]
            have hw3 : ((i2 : Int) + 1).toNat = i2 + 1 := by omega
            have hw4 : (0 : Int) ≤ (i2 : Int) := by omega
            have hw5 : (0 : Int) ≤ (i2 : Int) + 1 := by omega
            by_cases hjl : i2 + 1 < L
            · obtain ⟨ad, ha, hcell⟩ := hrow.2.2 (by omega)
              cases ha
              have hx := hcell i2 (by omega); have hy := hcell (i2 + 1) hjl
              rw [add_plain, List.getD_eq_getElem?_getD] at hx hy
              have hbx := rows_top H0.out (k := q) (by omega) i2; have hby := rows_top H0.out (k := q) (by omega) (i2 + 1)
              have HSN := Lib.hid (pairSum_snoc ((pm C q).map Pk.sum) j (by rw [List.length_map]; have := HLL.out; have := HI2.out; omega))
              rw [← HI2.out] at HSN
              unfold ln at hbx hby HSN
              generalize (((pm C q).map Pk.sum)[i2]?.getD 0) = x at *
              generalize (((pm C q).map Pk.sum)[i2 + 1]?.getD 0) = y at *
              obtain ⟨hx0, hx1⟩ := hbx; obtain ⟨hy0, hy1⟩ := hby
              have hws : IntKind.i64.wrap (x + y) = x + y := by rw [IntWalk.i64_in _ (by omega)]
              have hj1 : (i2 : Int) < (L : Int) := by omega
              have hj2 : (i2 : Int) + 1 < (L : Int) := by omega
              have hwb : Below W0.heap.size W0 (wr.alloc (.cells #[.int .i64 (x + y)] 3)).drew := below_drew (HBZ.out.alloc hbz _)
              have HLIT := Lib.hid (own_reads' (own_lit wr wr.heap.size 3 .i64 [x + y] (Nat.le_refl _) (by simp)))
              have HX := Lib.hid (And.intro hx hy)
              replace hx := pw_cell_below HBZ.out hx; replace hy := pw_cell_below HBZ.out hy
              clear hcell
              go_wp2_with fail
              go_region_held3 (fun w' => w'.cell? ⟨g2, i2, none⟩ = some (.int .i64 x) ∧ w'.cell? ⟨g2, i2 + 1, none⟩ = some (.int .i64 y)) ((first | exact ⟨hx, hy⟩ | exact ⟨pw_cell_below hwb HX.out.1, pw_cell_below hwb HX.out.2⟩ | exact ⟨pw_cell_below HB1.out HX.out.1, pw_cell_below HB1.out HX.out.2⟩)) ((refine step_append_row (w0 := W0) W0.heap.size (by rfl) _ _ 28 3 rfl Try.underlying28 info_int _ (m + j) (C.map Pk.sum ++ (pairSum ((pm C q).map Pk.sum)).take j) [x + y] ⟨wr.heap.size, 0, none⟩ 1 1 rfl rfl (by exact own_alloc HN.out _) (by exact HLIT.out) hwb hwb.size (by omega) ?_; intro vn wn hown hB1 hg hat; have HN1 := Lib.hid hown; have HB1 := Lib.hid hB1; clear hown hB1 hg hat))
              all_goals
                go_wp2_with fail
                go_roundw
              case rel => exact ⟨j + 1, i2 + 2, by have := HI2.out; omega, by omega, by go_num, by show World.ownsRow _ _ _ _ _ _ _; rw [HSN.out, ← List.append_assoc]; exact HN1.out, HB1.out⟩
              case measure => simp [intOf]; omega
            · obtain ⟨A5, c5, rfl, _⟩ := own_reads HN.out
              have HN5 := Lib.hid HN.out
              rw [pairSum_all _ j (by rw [List.length_map]; have := HLL.out; have := HI2.out; omega)] at HN5
              go_wp2_with fail
              refine (sorted_any 2000 A5 (m + j) c5 _ W0.heap.size wr (by omega) (by omega) HN5.out).mono ?_
              rintro e w5 ⟨rfl, ys, hys, hss, ho, hm⟩
              have hyr := row_next C (pm C q) HC.out (pm_up C HC.out q) ys hss hys
              rw [← pm_succ] at hyr
              subst hyr
              have HB5 := Lib.hid (Below.then_mods HBZ.out hbz hm (own_ge HN5.out))
              have hLn : m + j = (pm C (q + 1)).length := by have := hys.length_eq; have h2 := ho.1; rw [nums_length, List.length_map] at h2; omega
              have HO5 := Lib.hid ho; have HLN := Lib.hid hLn
              clear hys hss ho hm HN HN5 HBZ hLn
              obtain ⟨g5, c5', hv5, hg5⟩ := own_someQ HO5.out (by omega)
              cases hv5
              have HBW := Lib.hid (below_then HB.out hbs HB5.out)
              have HONE5 := Lib.hid (pw_own_below HONE.out HB5.out)
              go_wp2_with fail
              go_roundw
              case rel => exact ⟨q + 1, m + j, g5, c5, by omega, by go_num, rfl, by omega, HLN.out, own_base HO5.out hbs, HONE5.out, HBW.out⟩
              case measure => simp [intOf]; omega
        · obtain rfl : q + 1 = M := by omega
          have hroom := HROOM.out
          rw [Nat.add_sub_cancel, HMM.out] at hroom
          have hmL : 2 * m - 2 ≤ L := by have := HLL.out; omega
          have hz2 : IntKind.i64.wrap (2 * (m : Int) - 2) = ((2 * m - 2 : Nat) : Int) := by rw [IntWalk.i64_in _ (by omega)]; omega
          have hz3 : IntKind.i64.wrap (2 * (m : Int)) = 2 * (m : Int) := by rw [IntWalk.i64_in _ (by omega)]
          go_wp2_with fail
          go_loop [11, 12] (fun s i => ∃ t : Nat, t ≤ 2 * m - 2 ∧ i = .int .i64 t ∧ s = .int .i64 ((((pm C q).map Pk.sum).take t).sum)) (fun _ i => 2 * m - (intOf i).toNat)
          case atStart => exact ⟨0, by omega, rfl, rfl⟩
          case round =>
            obtain ⟨t, ht, rfl, rfl⟩ := hrel
            by_cases htl : t < 2 * m - 2
            · obtain ⟨ad, ha, hcell⟩ := hrow.2.2 (by omega)
              cases ha
              have hx := hcell t (by omega)
              rw [add_plain, List.getD_eq_getElem?_getD] at hx
              have hbx := rows_top H0.out (k := q) (by omega) t
              have HSN := Lib.hid (sum_snoc (r := (pm C q).map Pk.sum) (t := t) (by rw [List.length_map]; have := HLL.out; omega))
              have hst := sums_take (rows_top H0.out (k := q) (by omega)) t (by rw [List.length_map]; have := HLL.out; omega)
              unfold ln at hbx HSN
              generalize (((pm C q).map Pk.sum)[t]?.getD 0) = x at *
              generalize (((pm C q).map Pk.sum).take t).sum = z at *
              obtain ⟨hx0, hx1⟩ := hbx; obtain ⟨hz0, hz1⟩ := hst
              clear hcell
              go_wp2_with fail
              go_round
              case rel => exact ⟨t + 1, by omega, by go_num, by rw [HSN.out]⟩
              case measure => simp [intOf] <;> omega
            · obtain rfl : t = 2 * m - 2 := by omega
              go_wp2_with fail
              go_ret
              exact ⟨HB.out, _, rfl, (fun h => by have := HMM.out; rw [h] at this; simp at this <;> omega), (fun y e => by have := HMM.out; rw [e] at this; simp at this <;> omega), (fun _ => by rw [HMM.out, tot_sums])⟩
end Go.Proofs.Ytoanhnebalapeaa
