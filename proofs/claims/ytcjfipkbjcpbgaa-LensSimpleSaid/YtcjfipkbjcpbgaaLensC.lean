/- The law LensSimple. -/
import Derived.Test.YtcjfipkbjcpbgaaLensB
import Derived.Test.YtcjfipkbjcpbgaaLensP
namespace Go.Proofs.Ytcjfipkbjcpbgaa
open Go.RowKit
open Go.Proofs.YtcjfipkbjcpbgaaW.PrintWords
open Srt

/-- What a Read answers: the lengths, or none that may be. -/
def ReadPost (g k : Nat) (out : List Int) (ok : Bool) (w : World) (e : Ending) (w' : World) : Prop :=
  Mods [g] w w' ∧ (ok = true → ∃ G, e = .returned (.tuple #[.slice (some ⟨G, 0, none⟩) k k, .int .i64 0]) ∧ w.heap.size ≤ G ∧ w'.ownsRow w.heap.size 3 1 (.slice (some ⟨G, 0, none⟩) k k) k (nums .i64 out)) ∧ (ok = false → e = .returned (.tuple #[.slice none 0 0, .int .i64 3]))

set_option maxHeartbeats 2000000 in
theorem read_simple (two : Bool) (g : Nat) (A : Option Addr) (bs : List Int) (k : Nat) (a b : Int) (w : World) (h : Rdr w g A bs 0 false) (hA : ∀ ad, A = some ad → ad.block < w.heap.size ∧ ad.block ≠ g)
    (h1 : bitsVal bs 0 1 = 1) (ht : bitsVal bs (0 + 1) 1 = if two then 1 else 0) (hw : bitsVal bs (0 + 1 + 1) 1 = 1) (ha : bitsVal bs (0 + 1 + 1 + 1) 8 = a) (hb : two = true → bitsVal bs (0 + 1 + 1 + 1 + 8) 8 = b) (hl : 11 + (if two then 8 else 0) ≤ 8 * bs.length) (hbb : 0 ≤ b ∧ b < 256)
    (hk1 : 1 ≤ k) (hk : k ≤ 4096) (hck : (layS (zeros k) (twoS two a b)).2 = true → checkS (layS (zeros k) (twoS two a b)).1 = 0) :
    Calls Try.prog 9 #[.pointer (some ⟨g, 0, none⟩), .int .i64 k] w (ReadPost g k (layS (zeros k) (twoS two a b)).1 (layS (zeros k) (twoS two a b)).2 w) := by
  have hgl := h.lt
  have HR := Lib.hid h; have HA := Lib.hid hA; have H1 := Lib.hid h1; have HCK := Lib.hid hck
  have HSIM := Lib.hid (fun S G base W hS hG hGw hO => simple_any two S g G base A bs (0 + 1) k a b W hS ht hw ha hb (by omega) hbb hG hGw hO hk)
  have hll := Lib.hid (layS_length (twoS two a b) (zeros k))
  have hmk := print_make (P := Try.prog) 27 3 .i64 8 Try.underlying27 info_int (by decide) k (by omega)
  have hl8 : 1 ≤ bs.length := by omega
  clear h hA h1 ht hw ha hb hck hl
  generalize layS (zeros k) (twoS two a b) = res at *
  obtain ⟨out, ok⟩ := res
  go_enter Try.func9, Try.ntmps9
  go_wp2_with fail
  have hW1 : ((w.alloc (.cells #[.pointer (some ⟨g, 0, none⟩), .int .i64 0] 57)).alloc (.cells (madeCells #[.int .i64 0] k) 3)).heap[w.heap.size]? = some (.cells #[.pointer (some ⟨g, 0, none⟩), .int .i64 0] 57 (0, 0)) := by
    rw [Below.heap_alloc _ _ _ (by simp)]; exact blk_alloc _
  have hO1 := own_made (w.alloc (.cells #[.pointer (some ⟨g, 0, none⟩), .int .i64 0] 57)) w.heap.size 3 .i64 k (by simp) (by omega)
  have hM1 : Mods [] w ((w.alloc (.cells #[.pointer (some ⟨g, 0, none⟩), .int .i64 0] 57)).alloc (.cells (madeCells #[.int .i64 0] k) 3)) := ((Mods.refl _ _).alloc _).alloc _
  have hz1 : ((w.alloc (.cells #[.pointer (some ⟨g, 0, none⟩), .int .i64 0] 57)).alloc (.cells (madeCells #[.int .i64 0] k) 3)).heap.size = w.heap.size + 1 + 1 := by simp
  rw [World.size_alloc] at hO1
  generalize hw1 : (w.alloc (.cells #[.pointer (some ⟨g, 0, none⟩), .int .i64 0] 57)).alloc (.cells (madeCells #[.int .i64 0] k) 3) = w1 at *
  have HW1 := Lib.hid hw1; have HO1 := Lib.hid hO1; have HM1 := Lib.hid hM1; have HZ1 := Lib.hid hz1
  have HS1 := Lib.hid (show Src w1 w.heap.size g A bs 0 0 from ⟨hW1, by omega, fun ad h => ⟨by have := (HA.out ad h).1; omega, (HA.out ad h).2⟩, HR.out.mods hM1 (by simp) (by simp)⟩)
  clear hw1 hO1 hM1 hz1 hW1 hmk
  refine (num_src 1 w.heap.size g A bs 0 1 w1 H1 (by omega) (by omega) (by omega) HS1.out).mono ?_
  rintro e w2 ⟨rfl, hS2, hM2⟩
  have HO2 := Lib.hid (own_mods HO1.out hM2 (by simp; omega))
  have HS2 := Lib.hid hS2; have HM2 := Lib.hid hM2
  have hz2 := hM2.size
  rw [HZ1.out] at hz2
  clear hS2 hM2
  go_wp2_with fail
  refine (HSIM.out w.heap.size (w.heap.size + 1) w.heap.size w2 HS2.out ⟨by omega, by omega, fun ad h => by have := (HA.out ad h).1; omega⟩ (by omega) HO2.out).mono ?_
  rintro e w3 ⟨rfl, hO3, hS3, hM3⟩
  have HMM : Hid (Mods [g] w w3) := Lib.hid (Mods.trans_new ((HM1.out.mono (by simp)).trans_new HM2.out (by simp)) hM3 (by simp))
  have HO3 := Lib.hid hO3; have HS3 := Lib.hid hS3
  clear hM3 hO3 hS3
  cases ok
  · have hd1 : w3.cell? ⟨w.heap.size, 1, none⟩ = some (.int .i64 3) := by rw [cell_blk HS3.out]; rfl
    have hf1 := free_blk HS3.out 1
    go_wp2_with fail
    go_quiet (fail)
    go_wp2_with fail
    go_ret2
    exact ⟨HMM.out.drewN _, fun h => (by cases h), fun _ => rfl⟩
  · have hd1 : w3.cell? ⟨w.heap.size, 1, none⟩ = some (.int .i64 0) := by rw [cell_blk HS3.out]; rfl
    have hf1 := free_blk HS3.out 1
    obtain ⟨A3, c3, he3, hr3⟩ := own_reads HO3.out
    cases he3
    have HR3 := Lib.hid hr3
    have hcz := Lib.hid (HCK.out rfl)
    clear hr3
    go_wp2_with fail
    refine (check_any _ k k out w3 HR3.out (by omega)).mono ?_
    rintro e w' ⟨rfl, rfl⟩
    rw [hcz.out]
    go_wp2_with fail
    go_ret2
    exact ⟨HMM.out, fun _ => ⟨w.heap.size + 1, rfl, by omega, HO3.out⟩, fun h => (by cases h)⟩
theorem rd_zero (k : Nat) (x : Int) : rd (zeros k) x = 0 := by
  unfold rd zeros
  rw [List.getD_eq_getElem?_getD, List.getElem?_replicate]; split <;> rfl
theorem rd_ln2 (ls : List Int) (x : Nat) : rd ls (x : Int) = ln ls x := rd_ln ls x
theorem lay1 (k a : Nat) : (layS (zeros k) (twoS false (a : Int) 0)).2 = decide (a < k) ∧ (a < k → Hot k a (layS (zeros k) (twoS false (a : Int) 0)).1) := by
  have e : twoS false (a : Int) 0 = [(a : Int)] := rfl
  rw [e]
  by_cases h : a < k
  · have : layS (zeros k) [(a : Int)] = ((zeros k).set a 1, true) := by
      unfold layS
      rw [if_pos ⟨by simp [zeros]; omega, rd_zero k _⟩]; rfl
    rw [this]
    exact ⟨by simp [h], fun _ => hot_set k a h⟩
  · have : layS (zeros k) [(a : Int)] = (zeros k, false) := by
      unfold layS
      rw [if_neg (fun hc => h (by have := hc.1; simp [zeros] at this; omega))]
    rw [this]
    exact ⟨by simp [h], fun h' => absurd h' h⟩
theorem lay2 (k a b : Nat) : (layS (zeros k) (twoS true (a : Int) (b : Int))).2 = (decide (a < k) && decide (b < k) && decide (a ≠ b)) ∧ (a < k → b < k → a ≠ b → Hot2 k a b (layS (zeros k) (twoS true (a : Int) (b : Int))).1) := by
  have e : twoS true (a : Int) (b : Int) = [(a : Int), (b : Int)] := rfl
  rw [e]
  by_cases h : a < k
  · have e1 : layS (zeros k) [(a : Int), (b : Int)] = layS ((zeros k).set a 1) [(b : Int)] := by
      rw [layS, if_pos ⟨by simp [zeros]; omega, rd_zero k _⟩]; rfl
    have hh := hot_set k a h
    by_cases h2 : b < k ∧ a ≠ b
    · have e2 : layS ((zeros k).set a 1) [(b : Int)] = (((zeros k).set a 1).set b 1, true) := by
        rw [layS, if_pos ⟨by simp [zeros]; omega, by rw [rd_ln2]; have := hh.2.2 b h2.1; unfold zeros; rw [this, if_neg (fun e => h2.2 e.symm)]⟩]; rfl
      rw [e1, e2]
      exact ⟨by simp [h, h2.1, h2.2], fun _ _ _ => hot2_set k a b h h2.1 h2.2⟩
    · have e2 : layS ((zeros k).set a 1) [(b : Int)] = ((zeros k).set a 1, false) := by
        rw [layS, if_neg (fun hc => h2 (by
          have h3 := hc.1
          simp [zeros] at h3
          have h4 : b < k := by omega
          refine ⟨h4, fun e => ?_⟩
          have h5 := hc.2
          rw [rd_ln2] at h5
          have := hh.2.2 b h4
          unfold zeros at h5
          rw [this, if_pos e.symm] at h5
          cases h5))]
      rw [e1, e2]
      refine ⟨?_, fun _ hb hn => absurd ⟨hb, hn⟩ h2⟩
      by_cases hb : b < k
      · have : a = b := by
          refine Classical.byContradiction fun hn => h2 ⟨hb, hn⟩
        simp [this]
      · simp [hb]
  · have : layS (zeros k) [(a : Int), (b : Int)] = (zeros k, false) := by
      rw [layS, if_neg (fun hc => h (by have := hc.1; simp [zeros] at this; omega))]
    rw [this]
    exact ⟨by simp [h], fun h' => absurd h' h⟩

/-- The bits that tell one symbol, or two. -/
def handL (two : Bool) (a b : Int) : List Int := bitsOf 1 1 ++ bitsOf (if two then 1 else 0) 1 ++ bitsOf 1 1 ++ bitsOf a 8 ++ (if two then bitsOf b 8 else [])
theorem handL_length (two : Bool) (a b : Int) : (handL two a b).length = 11 + (if two then 8 else 0) := by
  unfold handL; cases two <;> simp [bitsOf_length]
theorem handL_bits (two : Bool) (a b : Int) : IsBits (handL two a b) := by
  unfold handL
  refine IsBits.app ((((bitsOf_bits _ _).app (bitsOf_bits _ _)).app (bitsOf_bits _ _)).app (bitsOf_bits _ _)) ?_
  split
  · exact bitsOf_bits _ _
  · intro x hx; simp at hx
structure HandB (two : Bool) (a b : Int) (bs : List Int) : Prop where
  one : bitsVal bs 0 1 = 1
  two_ : bitsVal bs (0 + 1) 1 = if two then 1 else 0
  wide : bitsVal bs (0 + 1 + 1) 1 = 1
  fst : bitsVal bs (0 + 1 + 1 + 1) 8 = a
  snd : two = true → bitsVal bs (0 + 1 + 1 + 1 + 8) 8 = b
  len : 11 + (if two then 8 else 0) ≤ 8 * bs.length
theorem handL_says (two : Bool) (a b : Int) (ha : 0 ≤ a ∧ a < 256) (hb : 0 ≤ b ∧ b < 256) : HandB two a b (packB (handL two a b)) := by
  have hB := handL_bits two a b
  have hlen := handL_length two a b
  refine ⟨?_, ?_, ?_, ?_, ?_, by rw [packB_length, hlen]; omega⟩
  · rw [bitsVal_pack hB]
    exact lv_it [] (bitsOf (if two then 1 else 0) 1 ++ bitsOf 1 1 ++ bitsOf a 8 ++ (if two then bitsOf b 8 else [])) 1 1 (by decide) (by decide) |> fun h => by
      have e : handL two a b = [] ++ bitsOf 1 1 ++ (bitsOf (if two then 1 else 0) 1 ++ bitsOf 1 1 ++ bitsOf a 8 ++ (if two then bitsOf b 8 else [])) := by simp [handL]
      rw [e]; exact h
  · rw [bitsVal_pack hB]
    have h := lv_it (bitsOf 1 1) (bitsOf 1 1 ++ bitsOf a 8 ++ (if two then bitsOf b 8 else [])) (if two then 1 else 0) 1 (by split <;> decide) (by split <;> decide)
    have e : handL two a b = bitsOf 1 1 ++ bitsOf (if two then 1 else 0) 1 ++ (bitsOf 1 1 ++ bitsOf a 8 ++ (if two then bitsOf b 8 else [])) := by simp [handL]
    rw [e]; exact h
  · rw [bitsVal_pack hB]
    have h := lv_it (bitsOf 1 1 ++ bitsOf (if two then 1 else 0) 1) (bitsOf a 8 ++ (if two then bitsOf b 8 else [])) 1 1 (by decide) (by decide)
    have e : handL two a b = bitsOf 1 1 ++ bitsOf (if two then 1 else 0) 1 ++ bitsOf 1 1 ++ (bitsOf a 8 ++ (if two then bitsOf b 8 else [])) := by simp [handL]
    rw [e]
    simpa [bitsOf_length] using h
  · rw [bitsVal_pack hB]
    have h := lv_it (bitsOf 1 1 ++ bitsOf (if two then 1 else 0) 1 ++ bitsOf 1 1) (if two then bitsOf b 8 else []) a 8 ha.1 (by omega)
    have e : handL two a b = bitsOf 1 1 ++ bitsOf (if two then 1 else 0) 1 ++ bitsOf 1 1 ++ bitsOf a 8 ++ (if two then bitsOf b 8 else []) := rfl
    rw [e]
    simpa [bitsOf_length] using h
  · intro ht
    subst ht
    rw [bitsVal_pack hB]
    have h := lv_it (bitsOf 1 1 ++ bitsOf (if true then 1 else 0) 1 ++ bitsOf 1 1 ++ bitsOf a 8) [] b 8 hb.1 (by omega)
    have e : handL true a b = bitsOf 1 1 ++ bitsOf (if true then 1 else 0) 1 ++ bitsOf 1 1 ++ bitsOf a 8 ++ bitsOf b 8 ++ [] := by simp [handL]
    rw [e]
    simpa [bitsOf_length] using h

set_option maxHeartbeats 2000000 in
theorem answers07 (w : World) : Calls Try.prog 12 #[] w fun e w' => e = .returned (.bool true) ∧ Below w.heap.size w w' := by
  go_enter Try.func12, Try.ntmps12
  go_wp2_with fail
  refine (w_new w).mono ?_
  rintro e w1 ⟨rfl, hW1, hB1⟩
  have HW1 := Lib.hid hW1; have HB1 := Lib.hid hB1
  have hz1 := hB1.size
  clear hW1 hB1
  go_wp2_with fail
  have hR2 := reads_lit w1 3 .i64 [0, 0, 0, 0, 0, 7] (by decide)
  have hW2 := HW1.out.mods (S := []) ((Mods.refl [] w1).alloc (.cells #[.int .i64 0, .int .i64 0, .int .i64 0, .int .i64 0, .int .i64 0, .int .i64 7] 3)) (by simp) (by simp)
  refine (write07 w.heap.size w1.heap.size (.slice none 0 0) _ hW2 hR2).mono ?_
  rintro e w3 ⟨rfl, v3, hW3, hC3⟩
  have HW3 := Lib.hid (show Wtr w3 w.heap.size v3 (handL false 5 0) from by simpa [handL] using hW3)
  have hM3 : Mods [w.heap.size] w1 w3 := Mods.trans (((Mods.refl _ _).alloc _)) (hC3.mods.mono (by simp [rows, Value.ownBlock]))
  have HB3 := Lib.hid (Below.then_mods HB1.out hz1 hM3 (by simp))
  clear hR2 hW2 hW3 hC3 hM3
  have hz3 := HB3.out.size
  go_wp2_with fail
  refine (w_bytes w.heap.size v3 _ w3 HW3.out).mono ?_
  rintro e w4 ⟨v4, rfl, hown4, hB4⟩
  obtain ⟨A4, c4, rfl, hr4⟩ := own_reads hown4
  have HR4 := Lib.hid hr4
  have HB4 := Lib.hid (below_then HB3.out hz3 hB4)
  have hz4 := HB4.out.size
  clear hown4 hB4 hr4
  have hll := handL_length false 5 0
  have HSAY := Lib.hid (handL_says false 5 0 (by decide) (by decide))
  have HBB := Lib.hid (packB_bytes (handL_bits false 5 0))
  have hlay : layS (zeros 6) (twoS false 5 0) = ([0, 0, 0, 0, 0, 1], true) := by decide
  have HLAY := Lib.hid hlay
  generalize handL false 5 0 = L at *
  have HLL := Lib.hid hll
  have hlb : (L.length + 7) / 8 ≤ 10 := by simp at hll; omega
  clear hll hlay
  generalize (L.length + 7) / 8 = nb at *
  go_wp2_with fail
  refine (newReader A4 nb c4 (packB L) w4 HR4.out HBB.out (by omega)).mono ?_
  rintro e w5 ⟨g, A', rfl, hg, hA', hR, hB⟩
  have hAlt : ∀ ad, A' = some ad → ad.block < w5.heap.size ∧ ad.block ≠ g := fun ad h => ⟨by
    obtain ⟨d, e2, hc⟩ := hR.2.2.2.2.1.2.2 (by have := HSAY.out.len; simp at this; omega)
    rw [h] at e2
    cases e2
    exact World.block_lt_of_cell? w5 _ (hc 0 (by have := HSAY.out.len; simp at this; omega)), hR.2.2.2.2.2 ad h⟩
  have hg1 : w.heap.size ≤ g := by omega
  have HB5 := Lib.hid (below_then HB4.out hz4 hB); have HR5 := Lib.hid hR; have HALT := Lib.hid hAlt
  clear hA' hR hB hAlt hg
  go_wp2_with fail
  refine (read_simple false g A' (packB L) 6 5 0 w5 HR5.out HALT.out HSAY.out.one HSAY.out.two_ HSAY.out.wide HSAY.out.fst HSAY.out.snd HSAY.out.len (by decide) (by decide) (by decide) (fun _ => by rw [HLAY.out]; decide)).mono ?_
  rintro e w6 ⟨hM6, hyes, _⟩
  rw [HLAY.out] at hyes
  obtain ⟨G, rfl, hG, hown⟩ := hyes rfl
  obtain ⟨hc, hf⟩ := own_at hown 5 (by omega) (by omega)
  have hc5 : w6.cell? ⟨G, 5, none⟩ = some (.int .i64 1) := by simpa [rd] using hc
  have HB6 := Lib.hid (Below.then_mods HB5.out HB5.out.size hM6 (by simpa using hg1))
  clear hM6 hown hc hf
  go_wp2_with fail
  go_ret
  exact ⟨rfl, HB6.out⟩
end Go.Proofs.Ytcjfipkbjcpbgaa
