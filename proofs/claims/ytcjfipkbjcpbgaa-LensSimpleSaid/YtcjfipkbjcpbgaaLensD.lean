/- The law LensSimple: the law itself. -/
import Derived.Test.YtcjfipkbjcpbgaaLensC
namespace Go.Proofs.Ytcjfipkbjcpbgaa
open Go.RowKit
open Go.Proofs.YtcjfipkbjcpbgaaW.PrintWords
open Srt

theorem sum_bound (out : List Int) (h : ∀ t, t < out.length → ln out t = 0 ∨ ln out t = 1) : ∀ j, j ≤ out.length → 0 ≤ sumTo j (ln out) ∧ sumTo j (ln out) ≤ j := by
  intro j
  induction j with
  | zero => intro _; simp [sumTo]
  | succ j ih =>
    intro hj
    have := ih (by omega)
    rw [sumTo_succ]
    rcases h j (by omega) with e | e <;> rw [e] <;> omega

set_option maxHeartbeats 2000000 in
theorem law_LensSimple_false (a b n : Nat) (w : World) (ha : a ≤ 255) (_hb : b ≤ 255) (hn : n ≤ 65535) :
    Calls Try.prog 3 #[.int .u8 (a : Int), .int .u8 (b : Int), .bool false, .int .u16 (n : Int)] w fun e w' => e = .returned (.bool true) ∧ Below w.heap.size w w' := by
  have hk0 : n % 600 < 600 := Nat.mod_lt _ (by decide)
  obtain ⟨k, hk⟩ : ∃ k, k = n % 600 + 1 := ⟨_, rfl⟩
  have hkk : (n : Int) % 600 + 1 = (k : Int) := by omega
  have hk1 : 1 ≤ k ∧ k ≤ 600 := by omega
  obtain ⟨hk1, hk2⟩ := hk1
  have HSAY := Lib.hid (handL_says false (a : Int) 0 ⟨by omega, by omega⟩ (by first | decide | exact ⟨by omega, by omega⟩))
  have HBB := Lib.hid (packB_bytes (handL_bits false (a : Int) 0))
  have hll := handL_length false (a : Int) 0
  have hlay := lay1 k a
  have HCK := Lib.hid (show (layS (zeros k) (twoS false (a : Int) 0)).2 = true → checkS (layS (zeros k) (twoS false (a : Int) 0)).1 = 0 from fun h => by
    rw [hlay.1] at h
    simp at h
    exact (hlay.2 h).check)
  have HLAY := Lib.hid hlay
  have HW0 := Lib.hid (show ∀ (W : World) (g : Nat) (v : Value), Wtr W g v ([] ++ bitsOf 1 1 ++ bitsOf 0 1 ++ bitsOf 1 1 ++ bitsOf (a : Int) 8) → Wtr W g v (handL false (a : Int) 0) from fun W g v h => by simpa [handL] using h)
  clear hlay hk hk0
  go_enter Try.func3, Try.ntmps3
  go_wp2_with fail
  refine (w_new w).mono ?_
  rintro e w1 ⟨rfl, hW1, hB1⟩
  have HW1 := Lib.hid hW1; have HB1 := Lib.hid hB1
  have hz1 := hB1.size
  have HC1 := Lib.hid (Chg.refl w1 w.heap.size (.slice none 0 0))
  clear hW1 hB1
  go_wp2_with fail
  refine (w_bits w.heap.size (.slice none 0 0) _ 1 1 w1 HW1.out (by omega) (by decide) (by simp)).mono ?_
  rintro e w2 ⟨rfl, v2, hW, hM, hv⟩
  have HW2 := Lib.hid hW; have HC2 := Lib.hid (HC1.out.step hM hv); clear hW hM hv
  go_wp2_with fail
  refine (w_bits w.heap.size v2 _ 0 1 w2 HW2.out (by omega) (by decide) (by simp [bitsOf_length])).mono ?_
  rintro e w3 ⟨rfl, v3, hW, hM, hv⟩
  have HW3 := Lib.hid hW; have HC3 := Lib.hid (HC2.out.step hM hv); clear hW hM hv
  go_wp2_with fail
  refine (w_bits w.heap.size v3 _ 1 1 w3 HW3.out (by omega) (by decide) (by simp [bitsOf_length])).mono ?_
  rintro e w4 ⟨rfl, v4, hW, hM, hv⟩
  have HW4 := Lib.hid hW; have HC4 := Lib.hid (HC3.out.step hM hv); clear hW hM hv
  go_wp2_with fail
  refine (w_bits w.heap.size v4 _ (a : Int) 8 w4 HW4.out (by omega) ⟨by omega, by omega⟩ (by simp [bitsOf_length])).mono ?_
  rintro e w5 ⟨rfl, v5, hW, hM, hv⟩
  have HW5 := Lib.hid hW; have HC5 := Lib.hid (HC4.out.step hM hv); clear hW hM hv
  have HB5 := Lib.hid (Below.then_mods HB1.out hz1 HC5.out.mods (by simp [rows, Value.ownBlock]))
  have hz5 := HB5.out.size
  have HWW := Lib.hid (HW0.out _ _ _ HW5.out)
  go_wp2_with fail
  generalize handL false (a : Int) 0 = L at *
  have HLL := Lib.hid hll
  have hlb : (L.length + 7) / 8 ≤ 10 := by simp at hll; omega
  clear hll
  refine (w_bytes w.heap.size v5 L w5 HWW.out).mono ?_
  rintro e w20 ⟨v20, rfl, hown, hB⟩
  obtain ⟨A4, c4, rfl, hr4⟩ := own_reads hown
  have HR4 := Lib.hid hr4
  have HB20 := Lib.hid (below_then HB5.out hz5 hB)
  have hz20 := HB20.out.size
  clear hown hB hr4
  generalize (L.length + 7) / 8 = nb at *
  go_wp2_with fail
  refine (newReader A4 nb c4 (packB L) w20 HR4.out HBB.out (by omega)).mono ?_
  rintro e w21 ⟨g, A', rfl, hg, hA', hR, hB⟩
  have hAlt : ∀ ad, A' = some ad → ad.block < w21.heap.size ∧ ad.block ≠ g := fun ad h => ⟨by
    obtain ⟨d, e2, hc⟩ := hR.2.2.2.2.1.2.2 (by have := HSAY.out.len; simp at this; omega)
    rw [h] at e2
    cases e2
    exact World.block_lt_of_cell? w21 _ (hc 0 (by have := HSAY.out.len; simp at this; omega)), hR.2.2.2.2.2 ad h⟩
  have hg1 : w.heap.size ≤ g := by omega
  have HB21 := Lib.hid (below_then HB20.out hz20 hB); have HR21 := Lib.hid hR; have HALT := Lib.hid hAlt
  clear hA' hR hB hAlt hg
  go_wp2_with fail
  refine (read_simple false g A' (packB L) k (a : Int) 0 w21 HR21.out HALT.out HSAY.out.one HSAY.out.two_ HSAY.out.wide HSAY.out.fst HSAY.out.snd HSAY.out.len (by first | decide | exact ⟨by omega, by omega⟩) hk1 (by omega) HCK.out).mono ?_
  rintro e w22 ⟨hM, hyes, hno⟩
  have HB22 := Lib.hid (Below.then_mods HB21.out HB21.out.size hM (by simpa using hg1))
  have hz22 := HB22.out.size
  clear hM
  by_cases hok : a < k
  · have hokb : (layS (zeros k) (twoS false (a : Int) 0)).2 = true := by rw [HLAY.out.1]; simp [hok]
    have HHOT := Lib.hid (HLAY.out.2 hok)
    obtain ⟨G, rfl, hG, hown⟩ := hyes hokb
    clear hyes hno hokb
    generalize (layS (zeros k) (twoS false (a : Int) 0)).1 = out at *
    have HOWN := Lib.hid hown
    have HSUM := Lib.hid (sum_bound out (fun t ht => by rw [HHOT.out.2.2 t (by have := HHOT.out.1; omega)]; split <;> simp))
    have HLEN := Lib.hid HHOT.out.1
    clear hown
    have h1 := hok
    go_wp2_with fail
    go_loop [13, 14] (fun x y => ∃ (j : Nat) (s : Int), y = .int .i64 j ∧ x = .int .i64 s ∧ j ≤ k ∧ 0 ≤ s ∧ s ≤ j ∧ Hid (s = sumTo j (ln out))) (fun _ y => k - (intOf y).toNat)
    case atStart => exact ⟨0, 0, rfl, rfl, by omega, by omega, by omega, rfl⟩
    case round =>
      obtain ⟨j, s, rfl, rfl, hj, hs0, hs1, HS⟩ := hrel
      by_cases hlt : j < k
      · obtain ⟨hcell, _⟩ := own_at HOWN.out (j : Int) (by omega) (by omega)
        rw [Int.toNat_natCast, rd_ln] at hcell
        have hnx := Lib.hid (sumTo_succ j (ln out))
        have hbd := HSUM.out (j + 1) (by rw [HLEN.out]; omega)
        rw [hnx.out, ← HS.out] at hbd
        have hx := Lib.hid (show ln out j = ln out j from rfl)
        generalize hq : ln out j = q at *
        have HQ := Lib.hid hq
        clear hq
        go_wp2_with fail
        go_round
        case rel => exact ⟨j + 1, s + q, by go_num, rfl, by omega, by omega, by omega, by show _ = _; rw [hnx.out, ← HS.out]⟩
        case measure => simp [intOf]; omega
      · have hjk : j = k := by omega
        subst hjk
        have hsv : s = 1 := by rw [HS.out]; exact HHOT.out.sum
        subst hsv
        obtain ⟨hca, _⟩ := own_at HOWN.out (a : Int) (by omega) (by omega)
        rw [Int.toNat_natCast, rd_ln] at hca
        have hxa : ln out a = 1 := by rw [HHOT.out.2.2 a h1]; simp
        rw [hxa] at hca
        have HCA := Lib.hid hca
        clear hxa hca
        go_wp2_with fail
        refine (answers07 _).mono ?_
        rintro e w23 ⟨rfl, hB⟩
        have hca := pw_cell_below hB HCA.out
        have HB23 := Lib.hid (below_then HB22.out hz22 hB)
        clear hB
        go_wp2_with fail
        go_ret
        exact ⟨rfl, HB23.out⟩
  · have hokb : (layS (zeros k) (twoS false (a : Int) 0)).2 = false := by rw [HLAY.out.1]; simp; omega
    have := hno hokb
    subst this
    clear hyes hno hokb
    go_wp2_with fail
    refine (answers07 _).mono ?_
    rintro e w23 ⟨rfl, hB⟩
    have HB23 := Lib.hid (below_then HB22.out hz22 hB)
    clear hB
    go_wp2_with fail
    go_ret
    exact ⟨rfl, HB23.out⟩

set_option maxHeartbeats 2000000 in
theorem law_LensSimple_true (a b n : Nat) (w : World) (ha : a ≤ 255) (hb : b ≤ 255) (hn : n ≤ 65535) :
    Calls Try.prog 3 #[.int .u8 (a : Int), .int .u8 (b : Int), .bool true, .int .u16 (n : Int)] w fun e w' => e = .returned (.bool true) ∧ Below w.heap.size w w' := by
  have hk0 : n % 600 < 600 := Nat.mod_lt _ (by decide)
  obtain ⟨k, hk⟩ : ∃ k, k = n % 600 + 1 := ⟨_, rfl⟩
  have hkk : (n : Int) % 600 + 1 = (k : Int) := by omega
  have hk1 : 1 ≤ k ∧ k ≤ 600 := by omega
  obtain ⟨hk1, hk2⟩ := hk1
  have HSAY := Lib.hid (handL_says true (a : Int) (b : Int) ⟨by omega, by omega⟩ (by first | decide | exact ⟨by omega, by omega⟩))
  have HBB := Lib.hid (packB_bytes (handL_bits true (a : Int) (b : Int)))
  have hll := handL_length true (a : Int) (b : Int)
  have hlay := lay2 k a b
  have HCK := Lib.hid (show (layS (zeros k) (twoS true (a : Int) (b : Int))).2 = true → checkS (layS (zeros k) (twoS true (a : Int) (b : Int))).1 = 0 from fun h => by
    rw [hlay.1] at h
    simp at h
    exact (hlay.2 h.1.1 h.1.2 h.2).check)
  have HLAY := Lib.hid hlay
  have HW0 := Lib.hid (show ∀ (W : World) (g : Nat) (v : Value), Wtr W g v ([] ++ bitsOf 1 1 ++ bitsOf 1 1 ++ bitsOf 1 1 ++ bitsOf (a : Int) 8 ++ bitsOf (b : Int) 8) → Wtr W g v (handL true (a : Int) (b : Int)) from fun W g v h => by simpa [handL] using h)
  clear hlay hk hk0
  go_enter Try.func3, Try.ntmps3
  go_wp2_with fail
  refine (w_new w).mono ?_
  rintro e w1 ⟨rfl, hW1, hB1⟩
  have HW1 := Lib.hid hW1; have HB1 := Lib.hid hB1
  have hz1 := hB1.size
  have HC1 := Lib.hid (Chg.refl w1 w.heap.size (.slice none 0 0))
  clear hW1 hB1
  go_wp2_with fail
  refine (w_bits w.heap.size (.slice none 0 0) _ 1 1 w1 HW1.out (by omega) (by decide) (by simp)).mono ?_
  rintro e w2 ⟨rfl, v2, hW, hM, hv⟩
  have HW2 := Lib.hid hW; have HC2 := Lib.hid (HC1.out.step hM hv); clear hW hM hv
  go_wp2_with fail
  refine (w_bits w.heap.size v2 _ 1 1 w2 HW2.out (by omega) (by decide) (by simp [bitsOf_length])).mono ?_
  rintro e w3 ⟨rfl, v3, hW, hM, hv⟩
  have HW3 := Lib.hid hW; have HC3 := Lib.hid (HC2.out.step hM hv); clear hW hM hv
  go_wp2_with fail
  refine (w_bits w.heap.size v3 _ 1 1 w3 HW3.out (by omega) (by decide) (by simp [bitsOf_length])).mono ?_
  rintro e w4 ⟨rfl, v4, hW, hM, hv⟩
  have HW4 := Lib.hid hW; have HC4 := Lib.hid (HC3.out.step hM hv); clear hW hM hv
  go_wp2_with fail
  refine (w_bits w.heap.size v4 _ (a : Int) 8 w4 HW4.out (by omega) ⟨by omega, by omega⟩ (by simp [bitsOf_length])).mono ?_
  rintro e w5 ⟨rfl, v5, hW, hM, hv⟩
  have HW5 := Lib.hid hW; have HC5 := Lib.hid (HC4.out.step hM hv); clear hW hM hv
  go_wp2_with fail
  refine (w_bits w.heap.size v5 _ (b : Int) 8 w5 HW5.out (by omega) ⟨by omega, by omega⟩ (by simp [bitsOf_length])).mono ?_
  rintro e w6 ⟨rfl, v6, hW, hM, hv⟩
  have HW6 := Lib.hid hW; have HC6 := Lib.hid (HC5.out.step hM hv); clear hW hM hv
  have HB6 := Lib.hid (Below.then_mods HB1.out hz1 HC6.out.mods (by simp [rows, Value.ownBlock]))
  have hz6 := HB6.out.size
  have HWW := Lib.hid (HW0.out _ _ _ HW6.out)
  go_wp2_with fail
  generalize handL true (a : Int) (b : Int) = L at *
  have HLL := Lib.hid hll
  have hlb : (L.length + 7) / 8 ≤ 10 := by simp at hll; omega
  clear hll
  refine (w_bytes w.heap.size v6 L w6 HWW.out).mono ?_
  rintro e w20 ⟨v20, rfl, hown, hB⟩
  obtain ⟨A4, c4, rfl, hr4⟩ := own_reads hown
  have HR4 := Lib.hid hr4
  have HB20 := Lib.hid (below_then HB6.out hz6 hB)
  have hz20 := HB20.out.size
  clear hown hB hr4
  generalize (L.length + 7) / 8 = nb at *
  go_wp2_with fail
  refine (newReader A4 nb c4 (packB L) w20 HR4.out HBB.out (by omega)).mono ?_
  rintro e w21 ⟨g, A', rfl, hg, hA', hR, hB⟩
  have hAlt : ∀ ad, A' = some ad → ad.block < w21.heap.size ∧ ad.block ≠ g := fun ad h => ⟨by
    obtain ⟨d, e2, hc⟩ := hR.2.2.2.2.1.2.2 (by have := HSAY.out.len; simp at this; omega)
    rw [h] at e2
    cases e2
    exact World.block_lt_of_cell? w21 _ (hc 0 (by have := HSAY.out.len; simp at this; omega)), hR.2.2.2.2.2 ad h⟩
  have hg1 : w.heap.size ≤ g := by omega
  have HB21 := Lib.hid (below_then HB20.out hz20 hB); have HR21 := Lib.hid hR; have HALT := Lib.hid hAlt
  clear hA' hR hB hAlt hg
  go_wp2_with fail
  refine (read_simple true g A' (packB L) k (a : Int) (b : Int) w21 HR21.out HALT.out HSAY.out.one HSAY.out.two_ HSAY.out.wide HSAY.out.fst HSAY.out.snd HSAY.out.len (by first | decide | exact ⟨by omega, by omega⟩) hk1 (by omega) HCK.out).mono ?_
  rintro e w22 ⟨hM, hyes, hno⟩
  have HB22 := Lib.hid (Below.then_mods HB21.out HB21.out.size hM (by simpa using hg1))
  have hz22 := HB22.out.size
  clear hM
  by_cases hok : a < k ∧ b < k ∧ a ≠ b
  · have hokb : (layS (zeros k) (twoS true (a : Int) (b : Int))).2 = true := by rw [HLAY.out.1]; simp; exact ⟨⟨hok.1, hok.2.1⟩, hok.2.2⟩
    have HHOT := Lib.hid (HLAY.out.2 hok.1 hok.2.1 hok.2.2)
    obtain ⟨G, rfl, hG, hown⟩ := hyes hokb
    clear hyes hno hokb
    generalize (layS (zeros k) (twoS true (a : Int) (b : Int))).1 = out at *
    have HOWN := Lib.hid hown
    have HSUM := Lib.hid (sum_bound out (fun t ht => by rw [HHOT.out.2.2.2.2 t (by have := HHOT.out.1; omega)]; split <;> simp))
    have HLEN := Lib.hid HHOT.out.1
    clear hown
    obtain ⟨h1, h2, h3⟩ := hok
    have h3b : ((a : Int) == (b : Int)) = false := by simp; omega
    go_wp2_with fail
    go_loop [13, 14] (fun x y => ∃ (j : Nat) (s : Int), y = .int .i64 j ∧ x = .int .i64 s ∧ j ≤ k ∧ 0 ≤ s ∧ s ≤ j ∧ Hid (s = sumTo j (ln out))) (fun _ y => k - (intOf y).toNat)
    case atStart => exact ⟨0, 0, rfl, rfl, by omega, by omega, by omega, rfl⟩
    case round =>
      obtain ⟨j, s, rfl, rfl, hj, hs0, hs1, HS⟩ := hrel
      by_cases hlt : j < k
      · obtain ⟨hcell, _⟩ := own_at HOWN.out (j : Int) (by omega) (by omega)
        rw [Int.toNat_natCast, rd_ln] at hcell
        have hnx := Lib.hid (sumTo_succ j (ln out))
        have hbd := HSUM.out (j + 1) (by rw [HLEN.out]; omega)
        rw [hnx.out, ← HS.out] at hbd
        have hx := Lib.hid (show ln out j = ln out j from rfl)
        generalize hq : ln out j = q at *
        have HQ := Lib.hid hq
        clear hq
        go_wp2_with fail
        go_round
        case rel => exact ⟨j + 1, s + q, by go_num, rfl, by omega, by omega, by omega, by show _ = _; rw [hnx.out, ← HS.out]⟩
        case measure => simp [intOf]; omega
      · have hjk : j = k := by omega
        subst hjk
        have hsv : s = 2 := by rw [HS.out]; exact HHOT.out.sum
        subst hsv
        obtain ⟨hca, _⟩ := own_at HOWN.out (a : Int) (by omega) (by omega)
        rw [Int.toNat_natCast, rd_ln] at hca
        have hxa : ln out a = 1 := by rw [HHOT.out.2.2.2.2 a h1]; simp
        rw [hxa] at hca
        have HCA := Lib.hid hca
        clear hxa hca
        obtain ⟨hcb, _⟩ := own_at HOWN.out (b : Int) (by omega) (by omega)
        rw [Int.toNat_natCast, rd_ln] at hcb
        have hxb : ln out b = 1 := by rw [HHOT.out.2.2.2.2 b h2]; simp
        rw [hxb] at hcb
        have HCB := Lib.hid hcb
        clear hxb hcb
        go_wp2_with fail
        refine (answers07 _).mono ?_
        rintro e w23 ⟨rfl, hB⟩
        have hca := pw_cell_below hB HCA.out
        have hcb := pw_cell_below hB HCB.out
        have HB23 := Lib.hid (below_then HB22.out hz22 hB)
        clear hB
        go_wp2_with fail
        go_ret
        exact ⟨rfl, HB23.out⟩
  · have hokb : (layS (zeros k) (twoS true (a : Int) (b : Int))).2 = false := by rw [HLAY.out.1]; simp; omega
    have := hno hokb
    subst this
    clear hyes hno hokb
    by_cases q1 : a < k
    · by_cases q2 : b < k
      · have q3 : a = b := by omega
        have h3b : ((a : Int) == (b : Int)) = true := by simp [q3]
        clear q3 hok
        go_wp2_with fail
        refine (answers07 _).mono ?_
        rintro e w23 ⟨rfl, hB⟩
        have HB23 := Lib.hid (below_then HB22.out hz22 hB)
        clear hB
        go_wp2_with fail
        go_ret
        exact ⟨rfl, HB23.out⟩
      · clear hok
        go_wp2_with fail
        refine (answers07 _).mono ?_
        rintro e w23 ⟨rfl, hB⟩
        have HB23 := Lib.hid (below_then HB22.out hz22 hB)
        clear hB
        go_wp2_with fail
        go_ret
        exact ⟨rfl, HB23.out⟩
    · clear hok
      go_wp2_with fail
      refine (answers07 _).mono ?_
      rintro e w23 ⟨rfl, hB⟩
      have HB23 := Lib.hid (below_then HB22.out hz22 hB)
      clear hB
      go_wp2_with fail
      go_ret
      exact ⟨rfl, HB23.out⟩

theorem law_LensSimple (a b : Int) (two : Bool) (n : Int) (w : World) (ha : 0 ≤ a ∧ a ≤ 255) (hb : 0 ≤ b ∧ b ≤ 255) (hn : 0 ≤ n ∧ n ≤ 65535) :
    Calls Try.prog 3 #[.int .u8 a, .int .u8 b, .bool two, .int .u16 n] w fun e w' => e = .returned (.bool true) ∧ Below w.heap.size w w' := by
  obtain ⟨a, rfl⟩ := Int.eq_ofNat_of_zero_le ha.1
  obtain ⟨b, rfl⟩ := Int.eq_ofNat_of_zero_le hb.1
  obtain ⟨n, rfl⟩ := Int.eq_ofNat_of_zero_le hn.1
  cases two
  · exact (law_LensSimple_false a b n w (by omega) (by omega) (by omega))
  · exact (law_LensSimple_true a b n w (by omega) (by omega) (by omega))
end Go.Proofs.Ytcjfipkbjcpbgaa
