/- What frame.head, frame.Head and the reference's Head do. -/
import Derived.Test.YtcjfipkbjcpbgaaGreatDoorBitin
namespace Go.Proofs.YtcjfipkbjcpbgaaGreatDoor
open Go.RowKit
open Go.Proofs.YtcjfipkbjcpbgaaGreatDoorW.PrintWords

/-- What a frame's head tells: sides, alpha, an error's number. -/
def headS (bs : List Int) : Int × Int × Bool × Int :=
  if bs.length < 5 then (0, 0, false, 2) else if bs[0]?.getD 0 = 47 then (if bitsVal bs 37 3 = 0 then (bitsVal bs 8 14 + 1, bitsVal bs 22 14 + 1, bitsVal bs 36 1 == 1, 0) else (0, 0, false, 3)) else (0, 0, false, 3)

theorem bv1 (bs : List Int) (p n : Nat) : bitsVal (bs.drop 1) p n = bitsVal bs (8 + p) n := bitsVal_drop bs 1 p n

def HeadPost (bs : List Int) (w : World) (e : Ending) (w' : World) : Prop :=
  Below w.heap.size w w' ∧ ∃ r, e = .returned (.tuple #[.int .i64 (headS bs).1, .int .i64 (headS bs).2.1, .bool (headS bs).2.2.1, .pointer r, .int .i64 (headS bs).2.2.2]) ∧
      ((headS bs).2.2.2 = 0 → ∃ g A', r = some ⟨g, 0, none⟩ ∧ w.heap.size ≤ g ∧ (∀ ad, A' = some ad → w.heap.size ≤ ad.block) ∧ Rdr w' g A' (bs.drop 1) 32 false)
theorem HeadPost.err {bs : List Int} {w w' : World} {k : Int} (h : headS bs = (0, 0, false, k)) (hk : k ≠ 0) (hb : Below w.heap.size w w') : HeadPost bs w (.returned (.tuple #[.int .i64 0, .int .i64 0, .bool false, .pointer none, .int .i64 k])) w' := by
  unfold HeadPost
  rw [h]
  exact ⟨hb, none, rfl, fun h0 => absurd h0 hk⟩

set_option maxHeartbeats 1000000 in
theorem head_any (A : Option Addr) (n c : Nat) (bs : List Int) (w : World) (HR : ReadsInt w .u8 A n bs) (hb : ∀ x ∈ bs, 0 ≤ x ∧ x ≤ 255) (hn : n ≤ 140737488351232) (hc : n ≤ c) :
    Calls Tryz.prog 12 #[.slice A n c] w (HeadPost bs w) := by
  have hl := HR.1
  have HRR := Lib.hid HR; have HX := Lib.hid hb; have HL := Lib.hid hl
  clear hb HR hl
  by_cases h5 : n < 5
  · have hs : headS bs = (0, 0, false, 2) := by unfold headS; rw [if_pos (by have := HL.out; omega)]
    have HS := Lib.hid hs; clear hs
    go_enter Tryz.func12, Tryz.ntmps12
    go_wp2_with fail
    exact bodyPost_ret (v := .tuple #[.int .i64 0, .int .i64 0, .bool false, .pointer none, .int .i64 2]) (by simp [results, Tryz.results12, go_sem]) rfl (HeadPost.err HS.out (by decide) (Below.refl _ _))
  · obtain ⟨ad, hA, hcell⟩ := ReadsInt.at_ HRR.out 0 (by omega) (by omega)
    have hcell' : w.cell? ad = some (.int .u8 (rd bs 0)) := by simpa [Addr.add] using hcell
    have hrd : rd bs 0 = bs[0]?.getD 0 := by unfold rd; rw [List.getD_eq_getElem?_getD]; rfl
    clear hcell
    obtain ⟨i0, hi, hz0, hz1, hz2⟩ := info_parts info_u8
    obtain ⟨A1, hcut, hA1⟩ := print_cut (P := Tryz.prog) 22 5 .i64 Tryz.underlying22 hi hz1 A n c 1 (by omega)
    have HR1 := Lib.hid (hA1 w .u8 bs hc HRR.out)
    subst hA
    clear hi hz0 hz1 hz2 hA1
    have hcut' : ∀ W : World, (Instr.slice 22 (.slice (some ad) n c) (some (.int .i64 1)) none none).run Tryz.prog W = .ok (.slice A1 (n - 1) (c - 1)) W := hcut
    clear hcut
    have HD : Hid (rd bs 0 = bs[0]?.getD 0) := hrd
    clear hrd
    by_cases hm : rd bs 0 = 47
    · have hmb : (rd bs 0 != 47) = false := by simp [hm]
      have HM := Lib.hid hm; clear hm
      go_enter Tryz.func12, Tryz.ntmps12
      go_wp2_with fail
      refine (newReader A1 (n - 1) (c - 1) (bs.drop 1) w HR1.out (fun x hx => HX.out x (List.mem_of_mem_drop hx)) (by omega)).mono ?_
      rintro e w1 ⟨g, A', rfl, hg, hA', hR, hB⟩
      have hl1 : (bs.drop 1).length = n - 1 := by rw [List.length_drop, HL.out]
      have HL1 := Lib.hid hl1; have HA' := Lib.hid hA'; have HR0 := Lib.hid hR; have HB := Lib.hid hB
      clear hl1 hA' hR hB
      obtain ⟨v1, HV1⟩ : ∃ v, Hid (bitsVal (bs.drop 1) 0 14 = v) := ⟨_, rfl⟩
      obtain ⟨v2, HV2⟩ : ∃ v, Hid (bitsVal (bs.drop 1) (0 + 14) 14 = v) := ⟨_, rfl⟩
      obtain ⟨v3, HV3⟩ : ∃ v, Hid (bitsVal (bs.drop 1) (0 + 14 + 14) 1 = v) := ⟨_, rfl⟩
      obtain ⟨v4, HV4⟩ : ∃ v, Hid (bitsVal (bs.drop 1) (0 + 14 + 14 + 1) 3 = v) := ⟨_, rfl⟩
      have b1 : 0 ≤ v1 ∧ v1 < 16384 := by rw [← HV1.out]; exact ⟨bitsVal_nonneg _ _ _, bitsVal_lt _ _ 14⟩
      have b2 : 0 ≤ v2 ∧ v2 < 16384 := by rw [← HV2.out]; exact ⟨bitsVal_nonneg _ _ _, bitsVal_lt _ _ 14⟩
      go_wp2_with fail
      refine (bits_to v1 g A' (bs.drop 1) 0 14 w1 HV1 (by rw [HL1.out]; omega) (by omega) (by omega) HR0.out).mono ?_
      rintro e w2 ⟨rfl, hR, hM⟩
      have HR2 := Lib.hid hR; have HM2 := Lib.hid hM; clear hR hM
      go_wp2_with fail
      refine (bits_to v2 g A' (bs.drop 1) (0 + 14) 14 w2 HV2 (by rw [HL1.out]; omega) (by omega) (by omega) HR2.out).mono ?_
      rintro e w3 ⟨rfl, hR, hM⟩
      have HR3 := Lib.hid hR; have HM3 := Lib.hid hM; clear hR hM
      go_wp2_with fail
      refine (bits_to v3 g A' (bs.drop 1) (0 + 14 + 14) 1 w3 HV3 (by rw [HL1.out]; omega) (by omega) (by omega) HR3.out).mono ?_
      rintro e w4 ⟨rfl, hR, hM⟩
      have HR4 := Lib.hid hR; have HM4 := Lib.hid hM; clear hR hM
      go_wp2_with fail
      refine (bits_to v4 g A' (bs.drop 1) (0 + 14 + 14 + 1) 3 w4 HV4 (by rw [HL1.out]; omega) (by omega) (by omega) HR4.out).mono ?_
      rintro e w5 ⟨rfl, hR, hM⟩
      have HR5 := Lib.hid hR; have HM5 := Lib.hid hM; clear hR hM
      have hBB : Hid (Below w.heap.size w w5) :=
        Below.then_mods HB.out HB.out.size ((HM2.out.trans HM3.out).trans (HM4.out.trans HM5.out)) (by simp; omega)
      have hs : Hid (headS bs = if v4 = 0 then (v1 + 1, v2 + 1, v3 == 1, 0) else (0, 0, false, 3)) := by
        have e1 := HV1.out; have e2 := HV2.out; have e3 := HV3.out; have e4 := HV4.out
        rw [bv1] at e1 e2 e3 e4
        show headS bs = _
        unfold headS
        rw [if_neg (by have := HL.out; omega), if_pos (by rw [← HD.out]; exact HM.out), ← e1, ← e2, ← e3, ← e4]
      by_cases h4 : v4 = 0
      · have h4b : (v4 != 0) = false := by simp [h4]
        have H4 := Lib.hid h4; clear h4
        go_wp2_with fail
        refine bodyPost_ret (v := .tuple #[.int .i64 (v1 + 1), .int .i64 (v2 + 1), .bool (v3 == 1), .pointer (some ⟨g, 0, none⟩), .int .i64 0]) (by simp [results, Tryz.results12, go_sem]) rfl ?_
        unfold HeadPost
        rw [hs.out, if_pos H4.out]
        exact ⟨hBB.out, _, rfl, fun _ => ⟨g, A', rfl, hg, HA'.out, HR5.out⟩⟩
      · have h4b : (v4 != 0) = true := by simp [h4]
        have H4 := Lib.hid h4; clear h4
        go_wp2_with fail
        exact bodyPost_ret (v := .tuple #[.int .i64 0, .int .i64 0, .bool false, .pointer none, .int .i64 3]) (by simp [results, Tryz.results12, go_sem]) rfl (HeadPost.err (by rw [hs.out, if_neg H4.out]) (by decide) hBB.out)
    · have hmb : (rd bs 0 != 47) = true := by simp [hm]
      have hs : headS bs = (0, 0, false, 3) := by unfold headS; rw [if_neg (by have := HL.out; omega), if_neg (by rw [← HD.out]; exact hm)]
      have HS := Lib.hid hs; clear hs hm
      go_enter Tryz.func12, Tryz.ntmps12
      go_wp2_with fail
      exact bodyPost_ret (v := .tuple #[.int .i64 0, .int .i64 0, .bool false, .pointer none, .int .i64 3]) (by simp [results, Tryz.results12, go_sem]) rfl (HeadPost.err HS.out (by decide) (Below.refl _ _))

set_option maxHeartbeats 400000 in
theorem Head_any (A : Option Addr) (n c : Nat) (bs : List Int) (w : World) (HR : ReadsInt w .u8 A n bs) (hb : ∀ x ∈ bs, 0 ≤ x ∧ x ≤ 255) (hn : n ≤ 140737488351232) (hc : n ≤ c) :
    Calls Tryz.prog 8 #[.slice A n c] w fun e w' => e = .returned (.tuple #[.int .i64 (headS bs).1, .int .i64 (headS bs).2.1, .bool (headS bs).2.2.1, .int .i64 (headS bs).2.2.2]) ∧ Below w.heap.size w w' := by
  have H := Lib.hid (head_any A n c bs w HR hb hn hc)
  clear HR hb
  go_enter Tryz.func8, Tryz.ntmps8
  go_wp2_with fail
  refine H.out.mono ?_
  rintro e w1 ⟨hB, r, rfl, _⟩
  have HB := Lib.hid hB; clear hB
  go_wp2_with fail
  exact bodyPost_ret (v := .tuple #[.int .i64 (headS bs).1, .int .i64 (headS bs).2.1, .bool (headS bs).2.2.1, .int .i64 (headS bs).2.2.2]) (by simp [results, Tryz.results8, go_sem]) rfl ⟨rfl, HB.out⟩

set_option maxHeartbeats 400000 in
theorem answers21 (w : World) : Calls Tryz.prog 5 #[] w fun e w' => e = .returned (.bool true) ∧ Below w.heap.size w w' := by
  have hh : headS [47, 0, 0, 0, 16] = (1, 1, true, 0) := by decide
  have HH := Lib.hid hh; clear hh
  go_enter Tryz.func5, Tryz.ntmps5
  go_wp2_with fail
  refine (Head_any (some ⟨w.heap.size, 0, none⟩) 5 5 [47, 0, 0, 0, 16] _ (reads_lit w 5 .u8 [47, 0, 0, 0, 16] (by decide)) (by decide) (by decide) (by decide)).mono ?_
  rintro e w1 ⟨rfl, hB⟩
  have HB := Lib.hid hB; clear hB
  rw [HH.out]
  go_wp2_with fail
  go_ret
  refine ⟨rfl, ?_⟩
  exact ((Below.refl _ w).alloc (Nat.le_refl _) _).trans (HB.out.mono (by simp))
end Go.Proofs.YtcjfipkbjcpbgaaGreatDoor
