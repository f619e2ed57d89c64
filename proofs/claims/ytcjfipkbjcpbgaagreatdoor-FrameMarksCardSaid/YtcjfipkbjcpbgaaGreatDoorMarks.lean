/- What frame.Decode does where no pixel may be; the law FrameMarks. -/
import Derived.Test.YtcjfipkbjcpbgaaGreatDoorHead
namespace Go.Proofs.YtcjfipkbjcpbgaaGreatDoor
open Go.RowKit
open Go.Proofs.YtcjfipkbjcpbgaaGreatDoorW.PrintWords

theorem bcell {B : Nat} {W w1 : World} (hb : Below B W w1) : (∀ b o, b < B → w1.cell? ⟨b, o, none⟩ = W.cell? ⟨b, o, none⟩) ∧ (∀ b o, b < B → w1.frozen? ⟨b, o, none⟩ = W.frozen? ⟨b, o, none⟩) :=
  ⟨fun b o h => hb.cell (p := ⟨b, o, none⟩) h, fun b o h => hb.frozen (p := ⟨b, o, none⟩) h⟩
theorem headS_bounds {bs : List Int} (h : (headS bs).2.2.2 = 0) : (1 ≤ (headS bs).1 ∧ (headS bs).1 ≤ 16384) ∧ 1 ≤ (headS bs).2.1 ∧ (headS bs).2.1 ≤ 16384 := by
  unfold headS at h ⊢
  by_cases h1 : bs.length < 5
  · rw [if_pos h1] at h; simp at h
  · rw [if_neg h1] at h ⊢
    by_cases h2 : bs[0]?.getD 0 = 47
    · rw [if_pos h2] at h ⊢
      by_cases h3 : bitsVal bs 37 3 = 0
      · rw [if_pos h3]
        have a := bitsVal_nonneg bs 8 14; have b := bitsVal_lt bs 8 14; have c := bitsVal_nonneg bs 22 14; have d := bitsVal_lt bs 22 14
        exact ⟨⟨by show 1 ≤ bitsVal bs 8 14 + 1; omega, by show bitsVal bs 8 14 + 1 ≤ _; omega⟩, by show 1 ≤ bitsVal bs 22 14 + 1; omega, by show bitsVal bs 22 14 + 1 ≤ _; omega⟩
      · rw [if_neg h3] at h; simp at h
    · rw [if_neg h2] at h; simp at h
theorem headS_short {bs : List Int} (h : bs.length < 5) : headS bs = (0, 0, false, 2) := by unfold headS; rw [if_pos h]
theorem headS_want {bs : List Int} (h : 5 ≤ bs.length) (hb : ∀ x ∈ bs, 0 ≤ x ∧ x ≤ 255) : (headS bs).2.2.2 = if bs[0]?.getD 0 = 47 ∧ bs[4]?.getD 0 / 32 = 0 then 0 else 3 := by
  have e : bitsVal bs 37 3 = bs[4]?.getD 0 / 32 := by
    rw [bitsVal_byte bs 37 3 (by omega)]
    have := hb (bs[4]?.getD 0) (by rw [List.getElem?_eq_getElem (by omega)]; exact List.getElem_mem _)
    show (bs[4]?.getD 0) / 2 ^ 5 % 2 ^ 3 = _
    simp; omega
  unfold headS
  rw [if_neg (by omega), e]
  by_cases h2 : bs[0]?.getD 0 = 47
  · rw [if_pos h2]
    by_cases h3 : bs[4]?.getD 0 / 32 = 0
    · rw [if_pos h3, if_pos ⟨h2, h3⟩]
    · rw [if_neg h3, if_neg (fun h => h3 h.2)]
  · rw [if_neg h2, if_neg (fun h => h2 h.1)]

/-- The error where no pixel may be. -/
def decE (k : Int) : Int := if k = 0 then 4 else k
set_option maxHeartbeats 1000000 in
theorem decode_zero (A : Option Addr) (n c : Nat) (bs : List Int) (w : World) (HR : ReadsInt w .u8 A n bs) (hb : ∀ x ∈ bs, 0 ≤ x ∧ x ≤ 255) (hn : n ≤ 140737488351232) (hc : n ≤ c) :
    Calls Tryz.prog 9 #[.slice A n c, .int .i64 0] w fun e w' => e = .returned (.tuple #[.agg #[.int .i64 0, .int .i64 0, .slice none 0 0], .bool false, .int .i64 (decE (headS bs).2.2.2)]) ∧ Below w.heap.size w w' := by
  have HB0 : Hid ((headS bs).2.2.2 = 0 → (1 ≤ (headS bs).1 ∧ (headS bs).1 ≤ 16384) ∧ 1 ≤ (headS bs).2.1 ∧ (headS bs).2.1 ≤ 16384) := fun h => headS_bounds h
  obtain ⟨v1, H1⟩ : ∃ v, Hid ((headS bs).1 = v) := ⟨_, rfl⟩
  obtain ⟨v2, H2⟩ : ∃ v, Hid ((headS bs).2.1 = v) := ⟨_, rfl⟩
  obtain ⟨v3, H3⟩ : ∃ v, Hid ((headS bs).2.2.1 = v) := ⟨_, rfl⟩
  obtain ⟨v4, H4⟩ : ∃ v, Hid ((headS bs).2.2.2 = v) := ⟨_, rfl⟩
  rw [H4.out] at HB0
  rw [H1.out, H2.out] at HB0
  have HH := Lib.hid (head_any A n c bs (w.alloc (.cells #[.int .i64 0, .int .i64 0, .slice none 0 0] 26)) (HR.below ((Below.refl _ w).alloc (Nat.le_refl _) _)) hb hn hc)
  clear HR hb
  go_enter Tryz.func9, Tryz.ntmps9
  go_wp2_with fail
  refine HH.out.mono ?_
  rintro e w1 ⟨hB, r, rfl, _⟩
  rw [H1.out, H2.out, H3.out, H4.out]
  have HB := Lib.hid (show Below w.heap.size w w1 from ((Below.refl _ w).alloc (Nat.le_refl _) _).trans (hB.mono (by simp)))
  obtain ⟨hc0, hf0⟩ := bcell (B := w.heap.size + 1) (by simpa using hB)
  have hsz := hB.size
  simp only [World.size_alloc] at hsz
  clear hB
  have hcell : w1.cell? ⟨w.heap.size, 0, none⟩ = some (.int .i64 0) := by rw [hc0 _ _ (by omega)]; simp
  have hcell1 : w1.cell? ⟨w.heap.size, 1, none⟩ = some (.int .i64 0) := by rw [hc0 _ _ (by omega)]; simp
  have hcell2 : w1.cell? ⟨w.heap.size, 2, none⟩ = some (.slice none 0 0) := by rw [hc0 _ _ (by omega)]; simp
  have hfree : ∀ i, w1.frozen? ⟨w.heap.size, i, none⟩ = false := fun i => by rw [hf0 _ _ (by omega)]; simp
  have hf1 := hfree 0; have hf2 := hfree 1; have hf3 := hfree 2
  clear hc0 hf0 hfree
  by_cases h0 : v4 = 0
  · obtain ⟨⟨b1, b2⟩, b3, b4⟩ := HB0.out h0
    have hm0 : 0 < v1 * v2 := Int.mul_pos (by omega) (by omega)
    have hm1 : v1 * v2 ≤ 268435456 := Int.le_trans (Int.mul_le_mul b2 b4 (by omega) (by omega)) (by decide)
    have h0b : (v4 != 0) = false := by simp [h0]
    have H0 := Lib.hid h0; clear h0
    go_wp2_with fail
    refine bodyPost_ret (v := .tuple #[.agg #[.int .i64 0, .int .i64 0, .slice none 0 0], .bool false, .int .i64 4]) (by simp [results, Tryz.results9, go_sem, hcell, hcell1, hcell2]) rfl ⟨by rw [H4.out, decE, if_pos H0.out], ?_⟩
    exact ((HB.out.setCell (by simp) _).setCell (by simp) _).setCell (by simp) _
  · have h0b : (v4 != 0) = true := by simp [h0]
    have H0 := Lib.hid h0; clear h0
    go_wp2_with fail
    refine bodyPost_ret (v := .tuple #[.agg #[.int .i64 0, .int .i64 0, .slice none 0 0], .bool false, .int .i64 v4]) (by simp [results, Tryz.results9, go_sem, hcell, hcell1, hcell2]) rfl ⟨by rw [H4.out, decE, if_neg H0.out], ?_⟩
    exact ((HB.out.setCell (by simp) _).setCell (by simp) _).setCell (by simp) _

set_option maxHeartbeats 1000000 in
theorem law_FrameMarks (A : Option Addr) (n c : Nat) (bs : List Int) (w : World) (HR : ReadsInt w .u8 A n bs) (hb : ∀ x ∈ bs, 0 ≤ x ∧ x ≤ 255) (hn : n ≤ 140737488351232) (hc : n ≤ c) :
    Calls Tryz.prog 4 #[.slice A n c] w fun e w' => e = .returned (.bool true) ∧ Below w.heap.size w w' := by
  have HRR := Lib.hid HR; have HX := Lib.hid hb; have HL := Lib.hid HR.1
  obtain ⟨v1, H1⟩ : ∃ v, Hid ((headS bs).1 = v) := ⟨_, rfl⟩
  obtain ⟨v2, H2⟩ : ∃ v, Hid ((headS bs).2.1 = v) := ⟨_, rfl⟩
  obtain ⟨v3, H3⟩ : ∃ v, Hid ((headS bs).2.2.1 = v) := ⟨_, rfl⟩
  obtain ⟨v4, H4⟩ : ∃ v, Hid ((headS bs).2.2.2 = v) := ⟨_, rfl⟩
  have HH := Lib.hid (Head_any A n c bs w HR hb hn hc)
  clear HR hb
  by_cases hs : n < 5 ∨ 2000 < n
  · have hs2 : (decide (n < 5) || decide (2000 < n)) = true := by simp; omega
    have hs3 : (decide (2000 < (n : Int)) || v4 == 2) = true := by
      rcases hs with h | h
      · have := headS_short (bs := bs) (by have := HL.out; omega)
        have h4 := H4.out
        rw [this] at h4
        have : v4 = 2 := h4.symm
        simp [this]
      · simp; omega
    rcases hs with h5 | h5
    all_goals
      go_enter Tryz.func4, Tryz.ntmps4
      go_wp2_with fail
      refine HH.out.mono ?_
      rintro e w1 ⟨rfl, hB⟩
      have HB := Lib.hid hB; clear hB
      rw [H1.out, H2.out, H3.out, H4.out]
      go_wp2_with fail
      refine (answers21 _).mono ?_
      rintro e w2 ⟨rfl, hB⟩
      have HB2 := Lib.hid (below_then HB.out HB.out.size hB); clear hB
      go_wp2_with fail
      go_ret
      exact ⟨rfl, HB2.out⟩
  · obtain ⟨ad, hA, hcell0⟩ := ReadsInt.at_ HRR.out 0 (by omega) (by omega)
    obtain ⟨ad', hA', hcell4⟩ := ReadsInt.at_ HRR.out 4 (by omega) (by omega)
    rw [hA] at hA'
    cases hA'
    subst hA
    have hw : v4 = if bs[0]?.getD 0 = 47 ∧ bs[4]?.getD 0 / 32 = 0 then 0 else 3 := by rw [← H4.out]; exact headS_want (by have := HL.out; omega) HX.out
    have e0 : bs[0]?.getD 0 = rd bs 0 := by unfold rd; rw [List.getD_eq_getElem?_getD]; rfl
    have e4 : bs[4]?.getD 0 = rd bs 4 := by unfold rd; rw [List.getD_eq_getElem?_getD]; rfl
    have b0 : 0 ≤ rd bs 0 ∧ rd bs 0 ≤ 255 := by rw [← e0]; exact HX.out _ (by rw [List.getElem?_eq_getElem (by have := HL.out; omega)]; exact List.getElem_mem _)
    have b4 : 0 ≤ rd bs 4 ∧ rd bs 4 ≤ 255 := by rw [← e4]; exact HX.out _ (by rw [List.getElem?_eq_getElem (by have := HL.out; omega)]; exact List.getElem_mem _)
    rw [e0, e4] at hw
    clear e0 e4
    generalize rd bs 0 = x at *
    generalize rd bs 4 = y at *
    have HW := Lib.hid hw; clear hw
    have hd := Lib.hid (fun w1 h => decode_zero (some ad) n c bs w1 (HRR.out.below (w := w) (w1 := w1) h) HX.out hn hc)
    have hcell0' : w.cell? ad = some (.int .u8 x) := by simpa [Addr.add] using hcell0
    have hcell4' : w.cell? ⟨ad.block, ad.off + 4, none⟩ = some (.int .u8 y) := by simpa [Addr.add] using hcell4
    clear hcell0 hcell4
    have HC0 := Lib.hid hcell0'; have HC4 := Lib.hid hcell4'
    clear hcell0' hcell4'
    have hfin : ∀ b : Bool, (b = true ↔ x = 47 ∧ y / 32 = 0) → (b = true → v4 = 0) ∧ (b = false → v4 = 3) := fun b hb => by
      rw [HW.out]
      cases b
      · refine ⟨fun h => (by cases h), fun _ => if_neg (fun h => ?_)⟩
        have := hb.2 h; cases this
      · exact ⟨fun _ => if_pos (hb.1 rfl), fun h => (by cases h)⟩
    have HFIN := Lib.hid hfin; clear hfin
    by_cases hx : x = 47
    · have hxb : (x != 47) = false := by simp [hx]
      by_cases hy : y / 32 = 0
      · have hyb : (y / 32 != 0) = false := by simp [hy]
        have HV := Lib.hid ((HFIN.out true ⟨fun _ => ⟨hx, hy⟩, fun _ => rfl⟩).1 rfl)
        clear hx hy
        go_enter Tryz.func4, Tryz.ntmps4
        go_wp2_with fail
        refine HH.out.mono ?_
        rintro e w1 ⟨rfl, hB⟩
        have hc0 := pw_cell_below hB HC0.out; have hc4 := pw_cell_below hB HC4.out
        have HB := Lib.hid hB; clear hB
        rw [H1.out, H2.out, H3.out, H4.out, HV.out]
        go_wp2_with fail
        refine (hd.out w1 HB.out).mono ?_
        rintro e w2 ⟨rfl, hB⟩
        have HB2 := Lib.hid (below_then HB.out HB.out.size hB); clear hB
        rw [H4.out, HV.out]
        unfold decE
        go_wp2_with fail
        refine (answers21 _).mono ?_
        rintro e w3 ⟨rfl, hB⟩
        have HB3 := Lib.hid (below_then (((HB2.out.alloc HB2.out.size _))) (by simp; have := HB2.out.size; omega) hB); clear hB
        go_wp2_with fail
        go_ret
        exact ⟨rfl, HB3.out⟩
      · have hyb : (y / 32 != 0) = true := by simp [hy]
        have HV := Lib.hid ((HFIN.out false ⟨fun h => (by cases h), fun h => absurd h.2 hy⟩).2 rfl)
        clear hx hy
        go_enter Tryz.func4, Tryz.ntmps4
        go_wp2_with fail
        refine HH.out.mono ?_
        rintro e w1 ⟨rfl, hB⟩
        have hc0 := pw_cell_below hB HC0.out; have hc4 := pw_cell_below hB HC4.out
        have HB := Lib.hid hB; clear hB
        rw [H1.out, H2.out, H3.out, H4.out, HV.out]
        go_wp2_with fail
        refine (hd.out w1 HB.out).mono ?_
        rintro e w2 ⟨rfl, hB⟩
        have HB2 := Lib.hid (below_then HB.out HB.out.size hB); clear hB
        rw [H4.out, HV.out]
        unfold decE
        go_wp2_with fail
        refine (answers21 _).mono ?_
        rintro e w3 ⟨rfl, hB⟩
        have HB3 := Lib.hid (below_then (((HB2.out.alloc HB2.out.size _))) (by simp; have := HB2.out.size; omega) hB); clear hB
        go_wp2_with fail
        go_ret
        exact ⟨rfl, HB3.out⟩
    · have hxb : (x != 47) = true := by simp [hx]
      have HV := Lib.hid ((HFIN.out false ⟨fun h => (by cases h), fun h => absurd h.1 hx⟩).2 rfl)
      clear hx
      go_enter Tryz.func4, Tryz.ntmps4
      go_wp2_with fail
      refine HH.out.mono ?_
      rintro e w1 ⟨rfl, hB⟩
      have hc0 := pw_cell_below hB HC0.out; have hc4 := pw_cell_below hB HC4.out
      have HB := Lib.hid hB; clear hB
      rw [H1.out, H2.out, H3.out, H4.out, HV.out]
      go_wp2_with fail
      refine (hd.out w1 HB.out).mono ?_
      rintro e w2 ⟨rfl, hB⟩
      have HB2 := Lib.hid (below_then HB.out HB.out.size hB); clear hB
      rw [H4.out, HV.out]
      unfold decE
      go_wp2_with fail
      refine (answers21 _).mono ?_
      rintro e w3 ⟨rfl, hB⟩
      have HB3 := Lib.hid (below_then (((HB2.out.alloc HB2.out.size _))) (by simp; have := HB2.out.size; omega) hB); clear hB
      go_wp2_with fail
      go_ret
      exact ⟨rfl, HB3.out⟩
end Go.Proofs.YtcjfipkbjcpbgaaGreatDoor
