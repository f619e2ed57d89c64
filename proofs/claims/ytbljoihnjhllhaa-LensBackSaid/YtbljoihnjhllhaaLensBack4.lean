/- The law LensBack: lengths that are written are read again, and nothing behind them; which ones may be written. (Printed by genlaw07b.py.) -/
import Derived.Test.YtbljoihnjhllhaaLensBack1
import Derived.Test.YtbljoihnjhllhaaLensFlat26
import Derived.Test.YtbljoihnjhllhaaLensBack3
namespace Go.Proofs.Ytbljoihnjhllhaa
open Go.RowKit
open Go.Proofs.YtbljoihnjhllhaaW.PrintWords
open Srt Sz

theorem ref_lens_any (g : Nat) (A : Option Addr) (bs : List Int) (p k : Nat) (w : World) (h : Eye w g A bs p false) (hA : ∀ ad, A = some ad → ad.block < w.heap.size) (hk1 : 1 ≤ k) (hk : k ≤ 4096) :
    Calls Try.prog 13 #[.pointer (some ⟨g, 0, none⟩), .int .i64 k] w (RLPost g A bs p k w) := by
  by_cases hb : p + 1 ≤ 8 * bs.length ∧ bitAt bs p = 1
  · exact ref_lens_simple g A bs p k w h hA hk1 hk hb.1 hb.2
  · exact ref_lens_norm g A bs p k w h hA hk1 hk hb
theorem order_many {ls os : List Int} (h : InOrder ls os) : os.length = many ls := by
  rw [← h.2.length]
  unfold posList posUp many mnUp
  rw [List.length_map, List.countP_eq_length_filter]
theorem wrB_short {ls os : List Int} (hx : ∀ x ∈ ls, 0 ≤ x ∧ x ≤ 15) (hn : ls.length ≤ 4096) : (wrB ls os).length ≤ 100000 := by
  have hs : ∀ l : List Int, l.length ≤ 4096 → (∀ x ∈ l, 0 ≤ x ∧ x ≤ 15) → (stepB l).length ≤ 100000 := by
    intro l hl hlx
    have h0 := steps_few hlx
    unfold stepB normB
    simp only [List.length_append, bitsOf_len, shortB_len]
    rcases Nat.eq_zero_or_pos l.length with q | q
    · have : l = [] := List.length_eq_zero_iff.1 q
      subst this
      rw [Lw.steps_nil]; simp [stsB]
    · obtain ⟨s1, s2, s3, s4⟩ := short_good hlx q hl (bestF_is (cntS_ok (l := Lw.steps l) (by omega)))
      have h := stsB_len _ _ s4 s2
      omega
  have h1 : ∀ a : Int, (simB [a]).length ≤ 100000 := fun a => by simp [simB, bitsOf_len]
  match os with
  | [] => exact h1 0
  | [a] => unfold wrB; simp only; split; exact h1 a; exact hs _ (by simpa using hn) (set_bounds hx _)
  | [a, b] => unfold wrB; simp only; split; (simp [simB, bitsOf_len]); exact hs _ hn hx
  | _ :: _ :: _ :: _ => exact hs _ hn hx
theorem some_neg_up {ls : List Int} {k : Nat} : (∃ t, t < k + 1 ∧ ln ls t < 0) ↔ (∃ t, t < k ∧ ln ls t < 0) ∨ ln ls k < 0 := by
  constructor
  · rintro ⟨t, h1, h2⟩
    by_cases e : t = k
    · subst e; exact .inr h2
    · exact .inl ⟨t, by omega, h2⟩
  · rintro (⟨t, h1, h2⟩ | h)
    · exact ⟨t, by omega, h2⟩
    · exact ⟨k, by omega, h⟩
theorem noneg_ln {ls : List Int} : NoNeg ls ↔ ¬ ∃ t, t < ls.length ∧ ln ls t < 0 := by
  constructor
  · rintro h ⟨t, h1, h2⟩
    have := h _ (ln_mem h1)
    omega
  · intro h x hx
    obtain ⟨t, ht, rfl⟩ := List.mem_iff_getElem.1 hx
    rw [← ln_get ht]
    exact Int.not_lt.1 (fun q => h ⟨t, ht, q⟩)
def GoodL (ls : List Int) : Prop := 1 ≤ ls.length ∧ NoNeg ls ∧ ((∀ t, ln ls t = 0) ∨ checkS ls = 0)
/-- How many have a length, and whether any is negative: the loop of the law. -/
def Neg0 (ls : List Int) (k : Nat) (b : Bool) : Prop := b = true ↔ ls.length = 0 ∨ ∃ t, t < k ∧ ln ls t < 0
set_option maxRecDepth 100000 in
set_option maxHeartbeats 16000000 in
theorem law_LensBack (A : Option Addr) (n c : Nat) (ls : List Int) (more : Int) (w : World) (HR : ReadsInt w .i64 A n ls) (hx : ∀ x ∈ ls, x ≤ 9223372036854775807) (hm : 0 ≤ more ∧ more ≤ 255) :
    Calls Try.prog 3 #[.slice A n c, .int .u8 more] w fun e w' => e = .returned (.bool true) ∧ Below w.heap.size w w' := by
  have HRR := Lib.hid HR; have HMX := Lib.hid hx; have HLN := Lib.hid HR.1
  have hmL := HR.2.1
  clear HR hx
  by_cases hbig : 2400 < n
  · have d0 : decide ((2400 : Int) < (n : Int)) = true := decide_eq_true (by omega)
    go_enter Try.func3, Try.ntmps3
    go_wp2_with fail
    refine (answers07 w).mono ?_
    rintro en w1 ⟨rfl, hB⟩
    have HB := Lib.hid hB
    clear hB
    go_wp2_with fail
    go_ret
    exact ⟨rfl, HB.out⟩
  have d0 : decide ((2400 : Int) < (n : Int)) = false := decide_eq_false (by omega)
  go_enter Try.func3, Try.ntmps3
  go_wp2_with fail
  refine (w_new w).mono ?_
  rintro en w1 ⟨rfl, hW1, hB1⟩
  have HW1 := Lib.hid hW1; have HB1 := Lib.hid hB1; have HR1 := Lib.hid (ReadsInt.below HRR.out hB1)
  have hz1 : w.heap.size < w1.heap.size := blk_lt hW1.2.2.1
  clear hW1 hB1 d0
  go_wp2_with (at_builtin; refine print_append_row w1.heap.size rfl _ _ 22 3 .i64 8 rfl Try.underlying22 info_int (by decide) _ [] ls A n c rfl rfl (by exact own_lit w1 w1.heap.size 3 .i64 [] (Nat.le_refl _) (by decide)) (by exact HR1.out.below ((Below.refl _ w1).alloc (Nat.le_refl _) _)) ((Below.refl _ w1).alloc (Nat.le_refl _) _) (by simp) (by simp; omega) ?_)
  intro v2 w2 hown2 hB2 _ _
  rw [HLN.out] at hown2
  obtain ⟨A2, c2, rfl, hR2⟩ := own_reads hown2
  have HR2 := Lib.hid hR2; have HB2 := Lib.hid hB2
  have HRA2 := Lib.hid (ReadsInt.below HR1.out hB2)
  have HW2 := Lib.hid (HW1.out.mods (Mods.of_below hB2 []) (by simp) (by simp))
  have HBW2 := Lib.hid (below_then HB1.out HB1.out.size hB2)
  have hz2 := hB2.size
  clear hown2 hB2 hR2
  by_cases hgood : GoodL ls
  · obtain ⟨h1', hnn, hgc⟩ := hgood
    have h1 : 1 ≤ n := by rw [← HLN.out]; exact h1'
    have HNN := Lib.hid hnn
    have HGC := Lib.hid hgc
    clear h1' hnn hgc
    go_wp2_with fail
    refine (write_good w.heap.size (.slice none 0 0) [] A2 n c2 ls w2 HW2.out HR2.out h1 (by omega) HNN.out HGC.out (by simp) HMX.out).mono ?_
    rintro en w3 ⟨rfl, os, v3, hos, hW3, hC3⟩
    have HOS := Lib.hid hos
    have HW3 := Lib.hid (show Wtr w3 w.heap.size v3 (wrB ls os) from hW3)
    have hM3 : Mods [w.heap.size] w2 w3 := by have h := hC3.mods; simpa [rows, Value.ownBlock] using h
    have HBW3 := Lib.hid (show Below w.heap.size w w3 from Below.then_mods HBW2.out HBW2.out.size hM3 (by simp))
    have HRA3 := Lib.hid (ReadsInt.below HRR.out HBW3.out)
    have HVW := Lib.hid (show ∀ b, v3.ownBlock = some b → w.heap.size ≤ b from fun b hb => by
      have := own_base hW3.2.2.2 b hb
      omega)
    have HVL := Lib.hid (fun b (hb : v3.ownBlock = some b) => own_lt hW3.2.2.2 b hb)
    have HOM := Lib.hid (order_many hos)
    have HGC2 : Hid (os = [] ∨ checkS ls = 0) := Lib.hid (by
      rcases HGC.out with q | q
      · left
        cases os with
        | nil => rfl
        | cons a t => have := hos.mem (x := a) (by simp); have := q a.toNat; omega
      · exact .inr q)
    have HBN := Lib.hid (show ∀ x ∈ ls, 0 ≤ x ∧ x ≤ 15 from by
      rcases HGC.out with q | q
      · intro x hx
        obtain ⟨t, ht, rfl⟩ := List.mem_iff_getElem.1 hx
        have := q t
        rw [ln_get ht] at this; omega
      · exact lens_bounds q)
    have hlen3 := wrB_short (os := os) HBN.out (by rw [HLN.out]; omega)
    have hlong3 := wrB_long ls os
    obtain ⟨L, hL⟩ : ∃ L, wrB ls os = L := ⟨_, rfl⟩
    rw [hL] at hlen3 HW3 hlong3
    have HLEQ := Lib.hid hL
    have hz3 := hM3.size
    clear hos hW3 hC3 hM3 hL HGC
    have HGC := HGC2
    clear HGC2
    go_wp2_with (at_builtin; refine print_append_row w3.heap.size rfl _ _ 22 3 .i64 8 rfl Try.underlying22 info_int (by decide) _ [] ls A n c rfl rfl (by exact own_lit w3 w3.heap.size 3 .i64 [] (Nat.le_refl _) (by decide)) (by exact HRA3.out.below ((Below.refl _ w3).alloc (Nat.le_refl _) _)) ((Below.refl _ w3).alloc (Nat.le_refl _) _) (by simp) (by simp; omega) ?_)
    intro v4 w4 hown4 hB4 _ _
    rw [HLN.out] at hown4
    have HO4 := Lib.hid hown4
    have HRA4 := Lib.hid (ReadsInt.below HRA3.out hB4)
    have HBW4 := Lib.hid (below_then HBW3.out HBW3.out.size hB4)
    have HW4 := Lib.hid (HW3.out.mods (Mods.of_below hB4 []) (by simp) (by simp))
    have hz4 := hB4.size
    clear hown4 hB4
    obtain ⟨g4, c4, rfl, hg4⟩ := own_some2 HO4.out (by omega)
    have e0 : ((n : Int) == 0) = false := beq_eq_false_iff_ne.2 (by omega)
    go_wp2_with fail
    go_loop [8, 9, 10] (fun sv bv iv => ∃ (i : Nat) (b : Bool), i ≤ n ∧ iv = .int .i64 i ∧ sv = .int .i64 (mnUp ls i : Nat) ∧ bv = .bool b ∧ Hid (Neg0 ls i b)) (fun _ _ iv => n - (intOf iv).toNat)
    case atStart => exact ⟨0, false, by omega, rfl, by simp [mnUp], rfl, Lib.hid (by unfold Neg0; rw [HLN.out]; simp; omega)⟩
    case round =>
      obtain ⟨i, b, hi, rfl, rfl, rfl, HNG⟩ := hrel
      have hmu := mnUp_le ls i
      by_cases hlt : i < n
      · obtain ⟨ad, hA, hcell⟩ := ReadsInt.at_ HRA4.out (i : Int) (by omega) (by omega)
        rw [Int.toNat_natCast, rd_lnS] at hcell
        subst hA
        have d1 : decide ((i : Int) < (n : Int)) = true := decide_eq_true (by omega)
        have d2 : decide (i < n) = true := decide_eq_true hlt
        have HMS := Lib.hid (mnUp_succ ls i)
        have HNX := Lib.hid (show ∀ b' : Bool, (b' = true ↔ b = true ∨ ln ls i < 0) → Neg0 ls (i + 1) b' from fun b' hb => by
          unfold Neg0
          have hq : b = true ↔ _ := HNG.out
          rw [hb, hq, some_neg_up]
          exact ⟨fun h => h.elim (fun h => h.elim .inl (fun h => .inr (.inl h))) (fun h => .inr (.inr h)), fun h => h.elim (fun h => .inl (.inl h)) (fun h => h.elim (fun h => .inl (.inr h)) .inr)⟩)
        obtain ⟨x, hxx⟩ : ∃ x, ln ls i = x := ⟨_, rfl⟩
        rw [hxx] at hcell HMS HNX
        clear hxx
        cases b
        · by_cases hx0 : x < 0
          · have d3 : decide (x < 0) = true := decide_eq_true hx0
            have d4 : decide (0 < x) = false := decide_eq_false (by omega)
            go_wp2_with fail
            go_round
            case rel => exact ⟨i + 1, true, by omega, by go_num, by rw [HMS.out, if_neg (by omega)]; rfl, rfl, Lib.hid (HNX.out true (by simp [hx0]))⟩
            case measure => simp [intOf]; omega
          · have d3 : decide (x < 0) = false := decide_eq_false hx0
            by_cases hx1 : 0 < x
            · have d4 : decide (0 < x) = true := decide_eq_true hx1
              go_wp2_with fail
              go_round
              case rel => exact ⟨i + 1, false, by omega, by go_num, by rw [HMS.out, if_pos hx1]; go_num, rfl, Lib.hid (HNX.out false (by simp; omega))⟩
              case measure => simp [intOf]; omega
            · have d4 : decide (0 < x) = false := decide_eq_false hx1
              go_wp2_with fail
              go_round
              case rel => exact ⟨i + 1, false, by omega, by go_num, by rw [HMS.out, if_neg hx1]; rfl, rfl, Lib.hid (HNX.out false (by simp; omega))⟩
              case measure => simp [intOf]; omega
        · by_cases hx1 : 0 < x
          · have d4 : decide (0 < x) = true := decide_eq_true hx1
            go_wp2_with fail
            go_round
            case rel => exact ⟨i + 1, true, by omega, by go_num, by rw [HMS.out, if_pos hx1]; go_num, rfl, Lib.hid (HNX.out true (by simp))⟩
            case measure => simp [intOf]; omega
          · have d4 : decide (0 < x) = false := decide_eq_false hx1
            go_wp2_with fail
            go_round
            case rel => exact ⟨i + 1, true, by omega, by go_num, by rw [HMS.out, if_neg hx1]; rfl, rfl, Lib.hid (HNX.out true (by simp))⟩
            case measure => simp [intOf]; omega
      · have d1 : decide ((i : Int) < (n : Int)) = false := decide_eq_false (by omega)
        have d2 : decide (i < n) = false := decide_eq_false hlt
        obtain rfl : i = n := by omega
        have HNEG := Lib.hid (show b = true ↔ i = 0 ∨ ¬ NoNeg ls from by
          have h := HNG.out
          unfold Neg0 at h
          rw [HLN.out] at h
          rw [h, noneg_ln, HLN.out]; simp)
        have HMM := Lib.hid (show mnUp ls i = many ls from by unfold many; rw [HLN.out])
        clear HRA4
        have hb : b = false := by
          cases b
          · rfl
          · rcases HNEG.out.1 rfl with q | q
            · omega
            · exact absurd HNN.out q
        subst hb
        have HOL := Lib.hid (show os.length = mnUp ls i from by rw [HOM.out, HMM.out])
        have hlt4 : g4 < w4.heap.size := own_lt HO4.out g4 rfl
        have HV4 := Lib.hid (show ∀ b, v3.ownBlock = some b → b = g4 → False from fun b hb e => by have := HVL.out b hb; omega)
        match os, HOS, HOM, HLEQ, HGC, HOL with
        | [], HOS, HOM, HLEQ, HGC, HOL =>
          have hs0 : mnUp ls i = 0 := HOL.out.symm
          rw [hs0]
          obtain ⟨hc4, hf4⟩ := own_at HO4.out 0 (by omega) (by omega)
          have hc4' : w4.cell? ⟨g4, 0, none⟩ = some (.int .i64 (rd ls 0)) := by simpa using hc4
          have hf4' : w4.frozen? ⟨g4, 0, none⟩ = false := by simpa using hf4
          have hst := (own_store HO4.out 0 1).1
          have hms : Mods [g4] w4 (w4.setCell ⟨g4, 0, none⟩ (.int .i64 1)) := (Mods.refl _ _).setCell (by simp) _
          have HWANT := Lib.hid (show ReadsInt (w4.setCell ⟨g4, 0, none⟩ (.int .i64 1)) .i64 (some ⟨g4, 0, none⟩) i (wantS ls []) from by
            obtain ⟨A', c', he', hr⟩ := own_reads (xs := ls.set 0 1) hst
            cases he'
            exact hr)
          have HWT := Lib.hid (HW4.out.mods hms (by simp; omega) (fun b hb => by simpa using HV4.out b hb))
          have HBT := Lib.hid (Below.then_mods HBW4.out HBW4.out.size hms (by simp; omega))
          have hrnd : rd ls 0 = rd ls 0 := rfl
          generalize rd ls 0 = r0 at hc4'
          clear hc4 hf4 hst hms hrnd HO4 d1 d2 e0
          go_wp2_with fail
          go_loopw [11] (fun iv wr => iv = .int .i64 0 ∧ wr = w4.setCell ⟨g4, 0, none⟩ (.int .i64 1)) (fun _ _ => 0)
          case atStart => exact ⟨rfl, rfl⟩
          case round =>
            obtain ⟨rfl, rfl⟩ := hrel
            go_wp2_with fail
            refine (w_len w.heap.size v3 L (w4.setCell ⟨g4, 0, none⟩ (.int .i64 1)) HWT.out).mono ?_
            rintro en w' ⟨rfl, rfl⟩
            go_wp2_with fail
            refine (w_bits w.heap.size v3 L more 8 (w4.setCell ⟨g4, 0, none⟩ (.int .i64 1)) HWT.out (by omega) ⟨hm.1, by omega⟩ (by omega)).mono ?_
            rintro en wa ⟨rfl, va, hWa, hMa, _⟩
            have HWa := Lib.hid hWa
            have HWANTa := Lib.hid (ReadsInt.mods HWANT.out hMa (fun ad h => by cases h; simp [rows]; exact ⟨by omega, fun e => HV4.out _ e rfl⟩))
            have HRLa := Lib.hid (show Below w.heap.size w wa from Below.then_mods HBT.out HBT.out.size hMa (by
              intro s hs
              rcases List.mem_cons.1 hs with rfl | h1
              · omega
              · unfold rows at h1; simp at h1; exact HVW.out s h1))
            clear hWa hMa
            have HIB := Lib.hid HWa.out.2.1
            have HLL := Lib.hid HWa.out.1
            go_wp2_with fail
            refine (w_bytes w.heap.size va (L ++ bitsOf more 8) wa HWa.out).mono ?_
            rintro en wb ⟨vb, rfl, hOb, hBb⟩
            obtain ⟨Ab, cb, rfl, hrb⟩ := own_reads hOb
            have HRb := Lib.hid hrb
            have HWANTb := Lib.hid (ReadsInt.below HWANTa.out hBb)
            have HBb := Lib.hid (below_then HRLa.out HRLa.out.size hBb)
            have HBY := Lib.hid (packB_bytes HIB.out)
            have hzb := hBb.size
            have hwanta : g4 < wa.heap.size := by
              obtain ⟨ad, hA, hc⟩ := ReadsInt.at_ HWANTa.out 0 (by omega) (by omega)
              cases hA
              have := World.block_lt_of_cell? wa _ hc
              simpa [add_plain] using this
            clear hOb hrb hBb
            have hLL : (L ++ bitsOf more 8).length ≤ 1000000 := by rw [List.length_append, bitsOf_length]; omega
            have HPK := Lib.hid (packB_length (L ++ bitsOf more 8))
            have HAT := Lib.hid (show At (packB (L ++ bitsOf more 8)) 0 L from by
              have h := at_pack (a := []) (l := L) (r := bitsOf more 8) (by simpa using HIB.out)
              simpa using h)
            have hrd := wrB_read (bs := packB (L ++ bitsOf more 8)) (p := 0) HOS.out HNN.out (by rw [HLN.out]; omega) (by rw [HLN.out]; omega) (by first | exact HGC.out | exact .inl rfl) (by rw [HLEQ.out]; exact HAT.out)
            rw [HLN.out, HLEQ.out, Nat.zero_add] at hrd
            have HRD := Lib.hid hrd.1
            clear hrd
            obtain ⟨nb, hnb⟩ : ∃ nb, ((L ++ bitsOf more 8).length + 7) / 8 = nb := ⟨_, rfl⟩
            rw [hnb] at HRb
            rw [hnb]
            have hnb2 : 8 * nb ≤ 140737488351232 := by omega
            clear hnb
            generalize packB (L ++ bitsOf more 8) = PB at *
            go_wp2_with fail
            refine (look_any Ab nb cb PB wb HRb.out HBY.out hnb2).mono ?_
            rintro en wc ⟨gx, Ax, rfl, hgx, hAx, hEx, hBc⟩
            have HWANTc := Lib.hid (ReadsInt.below HWANTb.out hBc)
            have HBc := Lib.hid (below_then HBb.out HBb.out.size hBc)
            have HEx := Lib.hid hEx
            have hAxl : ∀ ad, Ax = some ad → ad.block < wc.heap.size := fun ad h => by
              rcases Nat.eq_zero_or_pos PB.length with q | q
              · exfalso
                have h2 := HAT.out.1
                omega
              · obtain ⟨d, e2, hc⟩ := hEx.2.2.2.1.2.2 (by omega)
                rw [h] at e2
                cases e2
                exact World.block_lt_of_cell? wc _ (hc 0 (by omega))
            have HAX := Lib.hid hAxl
            clear hEx hBc hAx hAxl
            go_wp2_with fail
            refine (ref_lens_any gx Ax PB 0 i wc HEx.out HAX.out h1 (by omega)).mono ?_
            rintro en wd ⟨hMd, hcase⟩
            rcases hcase with ⟨G6, out, p6, rfl, hG6, hK6, hl6, _, hE6, hF6⟩ | ⟨e6, rfl, _, _, hF6⟩
            · rw [HRD.out] at hF6
              have ho : out = wantS ls ([]) ∧ L.length = p6 := by
                injection hF6 with q1 q2
                exact ⟨q1.symm, q2⟩
              obtain ⟨ho1, ho2⟩ := ho
              rw [ho1] at hK6 hl6
              clear ho1
              have HR6 := Lib.hid (blk_reads hK6 hl6 (by omega))
              have HWANTd := Lib.hid (ReadsInt.mods HWANTc.out hMd (fun ad h => by cases h; simp; omega))
              have HE6 := Lib.hid hE6
              have HP6 := Lib.hid ho2
              have HBd := Lib.hid (Below.then_mods HBc.out HBc.out.size hMd (by simp; omega))
              clear hMd hK6 hF6 hE6 ho2
              go_wp2_with fail
              refine (answers07 wd).mono ?_
              rintro en we ⟨rfl, hBe⟩
              have HR7 := Lib.hid (ReadsInt.below HR6.out hBe); have HL7 := Lib.hid (ReadsInt.below HWANTd.out hBe)
              have hE7 : Eye we gx Ax PB p6 false := HE6.out.mods (Mods.of_below hBe []) (by simp) (by simp)
              have HBe := Lib.hid (below_then HBd.out HBd.out.size hBe)
              have HE7 := Lib.hid hE7
              clear hBe hE7
              go_wp2_with fail
              refine (ints_same (some ⟨G6, 0, none⟩) (some ⟨g4, 0, none⟩) i i c4 (wantS ls ([])) we HR7.out HL7.out).mono ?_
              rintro en wf ⟨rfl, hBf⟩
              obtain ⟨_, _, ⟨cx, hbx⟩, _⟩ := HE7.out.mods (Mods.of_below hBf []) (by simp) (by simp)
              have hx1 : wf.cell? ⟨gx, 1, none⟩ = some (.int .i64 p6) := by rw [cell_blk hbx]; rfl
              have HBf := Lib.hid (below_then HBe.out HBe.out.size hBf)
              have d9 : ((p6 : Int) == (L.length : Int)) = true := by rw [HP6.out]; simp
              have d10 : (p6 == L.length) = true := by rw [HP6.out]; simp
              clear hBf hbx
              go_wp2_with fail
              go_ret
              exact ⟨rfl, HBf.out⟩
            · rw [HRD.out] at hF6; cases hF6
        | [a], HOS, HOM, HLEQ, HGC, HOL =>
          have hs1 : mnUp ls i = 1 := HOL.out.symm
          have ma := HOS.out.mem (x := a) (by simp)
          obtain ⟨s, hs⟩ := Int.eq_ofNat_of_zero_le ma.1
          subst hs
          rw [Int.toNat_natCast, HLN.out] at ma
          have hck : checkS ls = 0 := by
            rcases HGC.out with q | q
            · cases q
            · exact q
          have HCK := Lib.hid hck
          have hsi : s < i := by omega
          have HOUT := Lib.hid (show ∀ t, t < i → t ≠ s → ln ls t = 0 from fun t ht hne => ln_out_order HNN.out HOS.out (by rw [HLN.out]; exact ht) (by simp; omega))
          have HSP := Lib.hid ma.2.2
          rw [hs1]
          have d5 : decide ((0 : Int) < ((1 : Nat) : Int)) = true := rfl
          have HRc := Lib.hid (ReadsInt.below HRR.out HBW4.out)
          clear ma hck d1 d2 e0
          go_wp2_with fail
          refine (refCheck_any A i c ls w4 HRc.out (by omega)).mono ?_
          rintro en w' ⟨rfl, rfl⟩
          rw [HCK.out]
          go_wp2_with fail
          go_loopw [11] (fun iv wr => ∃ j : Nat, j ≤ i ∧ iv = .int .i64 j ∧ Hid (wr.ownsRow w3.heap.size 3 1 (.slice (some ⟨g4, 0, none⟩) i c4) i (nums .i64 (if s < j then ls.set s 1 else ls))) ∧ Hid (Mods [g4] w4 wr)) (fun iv _ => i - (intOf iv).toNat)
          case atStart => exact ⟨0, by omega, rfl, Lib.hid (by rw [if_neg (by omega)]; exact HO4.out), Lib.hid (Mods.refl _ _)⟩
          case round =>
            obtain ⟨j, hj, rfl, HOj, HMj⟩ := hrel
            by_cases hlj : j < i
            · have t1 : decide ((j : Int) < (i : Int)) = true := decide_eq_true (by omega)
              have t2 : decide (j < i) = true := decide_eq_true hlj
              have hRj : ReadsInt wr .i64 A i ls := ReadsInt.below HRR.out (Below.then_mods HBW4.out HBW4.out.size HMj.out (by simp; omega))
              obtain ⟨ad, hA, hcell⟩ := ReadsInt.at_ hRj (j : Int) (by omega) (by omega)
              rw [Int.toNat_natCast, rd_lnS] at hcell
              subst hA
              clear hRj
              by_cases hjs : j = s
              · have hp : 0 < ln ls j := by rw [hjs]; exact HSP.out
                obtain ⟨x, hxx⟩ : ∃ x, ln ls j = x := ⟨_, rfl⟩
                rw [hxx] at hcell hp
                have t3 : decide (0 < x) = true := decide_eq_true hp
                obtain ⟨hc5, hf5⟩ := own_at HOj.out (j : Int) (by omega) (by omega)
                rw [Int.toNat_natCast] at hc5 hf5
                have ho := (own_store HOj.out (j : Int) 1).1
                rw [Int.toNat_natCast] at ho
                have HON := Lib.hid (show (wr.setCell ⟨g4, j, none⟩ (.int .i64 1)).ownsRow w3.heap.size 3 1 (.slice (some ⟨g4, 0, none⟩) i c4) i (nums .i64 (if s < j + 1 then ls.set s 1 else ls)) from by
                  rw [if_pos (by omega)]
                  rw [if_neg (by omega), hjs] at ho
                  rw [hjs]; exact ho)
                generalize rd (if s < j then ls.set s 1 else ls) (j : Int) = old at *
                have t4 : (j : Int) < (i : Int) := by omega
                clear ho hxx hjs
                go_wp2_with fail
                go_roundw
                case rel => exact ⟨j + 1, by omega, by go_num, HON, Lib.hid (HMj.out.setCell (.inl (by simp)) _)⟩
                case measure => simp [intOf]; omega
              · have hp := HOUT.out j hlj hjs
                rw [hp] at hcell
                have HON := Lib.hid (show wr.ownsRow w3.heap.size 3 1 (.slice (some ⟨g4, 0, none⟩) i c4) i (nums .i64 (if s < j + 1 then ls.set s 1 else ls)) from by
                  have h := HOj.out
                  by_cases q : s < j
                  · rw [if_pos q] at h; rw [if_pos (by omega)]; exact h
                  · rw [if_neg q] at h; rw [if_neg (by omega)]; exact h)
                clear hp hjs
                go_wp2_with fail
                go_roundw
                case rel => exact ⟨j + 1, by omega, by go_num, HON, HMj⟩
                case measure => simp [intOf]; omega
            · have t1 : decide ((j : Int) < (i : Int)) = false := decide_eq_false (by omega)
              have t2 : decide (j < i) = false := decide_eq_false hlj
              obtain rfl : j = i := by omega
              have HWANT := Lib.hid (show ReadsInt wr .i64 (some ⟨g4, 0, none⟩) j (wantS ls [(s : Int)]) from by
                have h := HOj.out
                rw [if_pos hsi] at h
                obtain ⟨A', c', he', hr⟩ := own_reads h
                cases he'
                exact hr)
              have HWT := Lib.hid (HW4.out.mods HMj.out (by simp; omega) (fun b hb => by simpa using HV4.out b hb))
              have HBT := Lib.hid (Below.then_mods HBW4.out HBW4.out.size HMj.out (by simp; omega))
              clear HO4
              go_wp2_with fail
              refine (w_len w.heap.size v3 L wr HWT.out).mono ?_
              rintro en w' ⟨rfl, rfl⟩
              go_wp2_with fail
              refine (w_bits w.heap.size v3 L more 8 wr HWT.out (by omega) ⟨hm.1, by omega⟩ (by omega)).mono ?_
              rintro en wa ⟨rfl, va, hWa, hMa, _⟩
              have HWa := Lib.hid hWa
              have HWANTa := Lib.hid (ReadsInt.mods HWANT.out hMa (fun ad h => by cases h; simp [rows]; exact ⟨by omega, fun e => HV4.out _ e rfl⟩))
              have HRLa := Lib.hid (show Below w.heap.size w wa from Below.then_mods HBT.out HBT.out.size hMa (by
                intro s hs
                rcases List.mem_cons.1 hs with rfl | h1
                · omega
                · unfold rows at h1; simp at h1; exact HVW.out s h1))
              clear hWa hMa
              have HIB := Lib.hid HWa.out.2.1
              have HLL := Lib.hid HWa.out.1
              go_wp2_with fail
              refine (w_bytes w.heap.size va (L ++ bitsOf more 8) wa HWa.out).mono ?_
              rintro en wb ⟨vb, rfl, hOb, hBb⟩
              obtain ⟨Ab, cb, rfl, hrb⟩ := own_reads hOb
              have HRb := Lib.hid hrb
              have HWANTb := Lib.hid (ReadsInt.below HWANTa.out hBb)
              have HBb := Lib.hid (below_then HRLa.out HRLa.out.size hBb)
              have HBY := Lib.hid (packB_bytes HIB.out)
              have hzb := hBb.size
              have hwanta : g4 < wa.heap.size := by
                obtain ⟨ad, hA, hc⟩ := ReadsInt.at_ HWANTa.out 0 (by omega) (by omega)
                cases hA
                have := World.block_lt_of_cell? wa _ hc
                simpa [add_plain] using this
              clear hOb hrb hBb
              have hLL : (L ++ bitsOf more 8).length ≤ 1000000 := by rw [List.length_append, bitsOf_length]; omega
              have HPK := Lib.hid (packB_length (L ++ bitsOf more 8))
              have HAT := Lib.hid (show At (packB (L ++ bitsOf more 8)) 0 L from by
                have h := at_pack (a := []) (l := L) (r := bitsOf more 8) (by simpa using HIB.out)
                simpa using h)
              have hrd := wrB_read (bs := packB (L ++ bitsOf more 8)) (p := 0) HOS.out HNN.out (by rw [HLN.out]; omega) (by rw [HLN.out]; omega) (by first | exact HGC.out | exact .inl rfl) (by rw [HLEQ.out]; exact HAT.out)
              rw [HLN.out, HLEQ.out, Nat.zero_add] at hrd
              have HRD := Lib.hid hrd.1
              clear hrd
              obtain ⟨nb, hnb⟩ : ∃ nb, ((L ++ bitsOf more 8).length + 7) / 8 = nb := ⟨_, rfl⟩
              rw [hnb] at HRb
              rw [hnb]
              have hnb2 : 8 * nb ≤ 140737488351232 := by omega
              clear hnb
              generalize packB (L ++ bitsOf more 8) = PB at *
              go_wp2_with fail
              refine (look_any Ab nb cb PB wb HRb.out HBY.out hnb2).mono ?_
              rintro en wc ⟨gx, Ax, rfl, hgx, hAx, hEx, hBc⟩
              have HWANTc := Lib.hid (ReadsInt.below HWANTb.out hBc)
              have HBc := Lib.hid (below_then HBb.out HBb.out.size hBc)
              have HEx := Lib.hid hEx
              have hAxl : ∀ ad, Ax = some ad → ad.block < wc.heap.size := fun ad h => by
                rcases Nat.eq_zero_or_pos PB.length with q | q
                · exfalso
                  have h2 := HAT.out.1
                  omega
                · obtain ⟨d, e2, hc⟩ := hEx.2.2.2.1.2.2 (by omega)
                  rw [h] at e2
                  cases e2
                  exact World.block_lt_of_cell? wc _ (hc 0 (by omega))
              have HAX := Lib.hid hAxl
              clear hEx hBc hAx hAxl
              go_wp2_with fail
              refine (ref_lens_any gx Ax PB 0 j wc HEx.out HAX.out h1 (by omega)).mono ?_
              rintro en wd ⟨hMd, hcase⟩
              rcases hcase with ⟨G6, out, p6, rfl, hG6, hK6, hl6, _, hE6, hF6⟩ | ⟨e6, rfl, _, _, hF6⟩
              · rw [HRD.out] at hF6
                have ho : out = wantS ls ([(s : Int)]) ∧ L.length = p6 := by
                  injection hF6 with q1 q2
                  exact ⟨q1.symm, q2⟩
                obtain ⟨ho1, ho2⟩ := ho
                rw [ho1] at hK6 hl6
                clear ho1
                have HR6 := Lib.hid (blk_reads hK6 hl6 (by omega))
                have HWANTd := Lib.hid (ReadsInt.mods HWANTc.out hMd (fun ad h => by cases h; simp; omega))
                have HE6 := Lib.hid hE6
                have HP6 := Lib.hid ho2
                have HBd := Lib.hid (Below.then_mods HBc.out HBc.out.size hMd (by simp; omega))
                clear hMd hK6 hF6 hE6 ho2
                go_wp2_with fail
                refine (answers07 wd).mono ?_
                rintro en we ⟨rfl, hBe⟩
                have HR7 := Lib.hid (ReadsInt.below HR6.out hBe); have HL7 := Lib.hid (ReadsInt.below HWANTd.out hBe)
                have hE7 : Eye we gx Ax PB p6 false := HE6.out.mods (Mods.of_below hBe []) (by simp) (by simp)
                have HBe := Lib.hid (below_then HBd.out HBd.out.size hBe)
                have HE7 := Lib.hid hE7
                clear hBe hE7
                go_wp2_with fail
                refine (ints_same (some ⟨G6, 0, none⟩) (some ⟨g4, 0, none⟩) j j c4 (wantS ls ([(s : Int)])) we HR7.out HL7.out).mono ?_
                rintro en wf ⟨rfl, hBf⟩
                obtain ⟨_, _, ⟨cx, hbx⟩, _⟩ := HE7.out.mods (Mods.of_below hBf []) (by simp) (by simp)
                have hx1 : wf.cell? ⟨gx, 1, none⟩ = some (.int .i64 p6) := by rw [cell_blk hbx]; rfl
                have HBf := Lib.hid (below_then HBe.out HBe.out.size hBf)
                have d9 : ((p6 : Int) == (L.length : Int)) = true := by rw [HP6.out]; simp
                have d10 : (p6 == L.length) = true := by rw [HP6.out]; simp
                clear hBf hbx
                go_wp2_with fail
                go_ret
                exact ⟨rfl, HBf.out⟩
              · rw [HRD.out] at hF6; cases hF6
        | a :: b2 :: t, HOS, HOM, HLEQ, HGC, HOL =>
          have hck : checkS ls = 0 := by
            rcases HGC.out with q | q
            · cases q
            · exact q
          have HCK := Lib.hid hck
          have hs2 : 2 ≤ mnUp ls i := by rw [← HOL.out]; simp
          have hs3 : mnUp ls i ≤ i := mnUp_le ls i
          obtain ⟨m, hmm⟩ : ∃ m, mnUp ls i = m := ⟨_, rfl⟩
          rw [hmm] at hs2 hs3
          rw [hmm]
          have d5 : decide ((0 : Int) < (m : Int)) = true := decide_eq_true (by omega)
          have d6 : ((m : Int) == 0) = false := beq_eq_false_iff_ne.2 (by omega)
          have d7 : ((m : Int) == 1) = false := beq_eq_false_iff_ne.2 (by omega)
          have HRc := Lib.hid (ReadsInt.below HRR.out HBW4.out)
          have HWANT := Lib.hid (show ReadsInt w4 .i64 (some ⟨g4, 0, none⟩) i (wantS ls (a :: b2 :: t)) from by
            obtain ⟨A', c', he', hr⟩ := own_reads HO4.out
            cases he'
            exact hr)
          have HWT := HW4
          have HBT := HBW4
          clear hck hmm d1 d2 e0 HO4
          go_wp2_with fail
          refine (refCheck_any A i c ls w4 HRc.out (by omega)).mono ?_
          rintro en w' ⟨rfl, rfl⟩
          rw [HCK.out]
          go_wp2_with fail
          go_loopw [11] (fun iv wr => iv = .int .i64 0 ∧ wr = w4) (fun _ _ => 0)
          case atStart => exact ⟨rfl, rfl⟩
          case round =>
            obtain ⟨rfl, rfl⟩ := hrel
            go_wp2_with fail
            refine (w_len w.heap.size v3 L wr HWT.out).mono ?_
            rintro en w' ⟨rfl, rfl⟩
            go_wp2_with fail
            refine (w_bits w.heap.size v3 L more 8 wr HWT.out (by omega) ⟨hm.1, by omega⟩ (by omega)).mono ?_
            rintro en wa ⟨rfl, va, hWa, hMa, _⟩
            have HWa := Lib.hid hWa
            have HWANTa := Lib.hid (ReadsInt.mods HWANT.out hMa (fun ad h => by cases h; simp [rows]; exact ⟨by omega, fun e => HV4.out _ e rfl⟩))
            have HRLa := Lib.hid (show Below w.heap.size w wa from Below.then_mods HBT.out HBT.out.size hMa (by
              intro s hs
              rcases List.mem_cons.1 hs with rfl | h1
              · omega
              · unfold rows at h1; simp at h1; exact HVW.out s h1))
            clear hWa hMa
            have HIB := Lib.hid HWa.out.2.1
            have HLL := Lib.hid HWa.out.1
            go_wp2_with fail
            refine (w_bytes w.heap.size va (L ++ bitsOf more 8) wa HWa.out).mono ?_
            rintro en wb ⟨vb, rfl, hOb, hBb⟩
            obtain ⟨Ab, cb, rfl, hrb⟩ := own_reads hOb
            have HRb := Lib.hid hrb
            have HWANTb := Lib.hid (ReadsInt.below HWANTa.out hBb)
            have HBb := Lib.hid (below_then HRLa.out HRLa.out.size hBb)
            have HBY := Lib.hid (packB_bytes HIB.out)
            have hzb := hBb.size
            have hwanta : g4 < wa.heap.size := by
              obtain ⟨ad, hA, hc⟩ := ReadsInt.at_ HWANTa.out 0 (by omega) (by omega)
              cases hA
              have := World.block_lt_of_cell? wa _ hc
              simpa [add_plain] using this
            clear hOb hrb hBb
            have hLL : (L ++ bitsOf more 8).length ≤ 1000000 := by rw [List.length_append, bitsOf_length]; omega
            have HPK := Lib.hid (packB_length (L ++ bitsOf more 8))
            have HAT := Lib.hid (show At (packB (L ++ bitsOf more 8)) 0 L from by
              have h := at_pack (a := []) (l := L) (r := bitsOf more 8) (by simpa using HIB.out)
              simpa using h)
            have hrd := wrB_read (bs := packB (L ++ bitsOf more 8)) (p := 0) HOS.out HNN.out (by rw [HLN.out]; omega) (by rw [HLN.out]; omega) (by first | exact HGC.out | exact .inl rfl) (by rw [HLEQ.out]; exact HAT.out)
            rw [HLN.out, HLEQ.out, Nat.zero_add] at hrd
            have HRD := Lib.hid hrd.1
            clear hrd
            obtain ⟨nb, hnb⟩ : ∃ nb, ((L ++ bitsOf more 8).length + 7) / 8 = nb := ⟨_, rfl⟩
            rw [hnb] at HRb
            rw [hnb]
            have hnb2 : 8 * nb ≤ 140737488351232 := by omega
            clear hnb
            generalize packB (L ++ bitsOf more 8) = PB at *
            go_wp2_with fail
            refine (look_any Ab nb cb PB wb HRb.out HBY.out hnb2).mono ?_
            rintro en wc ⟨gx, Ax, rfl, hgx, hAx, hEx, hBc⟩
            have HWANTc := Lib.hid (ReadsInt.below HWANTb.out hBc)
            have HBc := Lib.hid (below_then HBb.out HBb.out.size hBc)
            have HEx := Lib.hid hEx
            have hAxl : ∀ ad, Ax = some ad → ad.block < wc.heap.size := fun ad h => by
              rcases Nat.eq_zero_or_pos PB.length with q | q
              · exfalso
                have h2 := HAT.out.1
                omega
              · obtain ⟨d, e2, hc⟩ := hEx.2.2.2.1.2.2 (by omega)
                rw [h] at e2
                cases e2
                exact World.block_lt_of_cell? wc _ (hc 0 (by omega))
            have HAX := Lib.hid hAxl
            clear hEx hBc hAx hAxl
            go_wp2_with fail
            refine (ref_lens_any gx Ax PB 0 i wc HEx.out HAX.out h1 (by omega)).mono ?_
            rintro en wd ⟨hMd, hcase⟩
            rcases hcase with ⟨G6, out, p6, rfl, hG6, hK6, hl6, _, hE6, hF6⟩ | ⟨e6, rfl, _, _, hF6⟩
            · rw [HRD.out] at hF6
              have ho : out = wantS ls (a :: b2 :: t) ∧ L.length = p6 := by
                injection hF6 with q1 q2
                exact ⟨q1.symm, q2⟩
              obtain ⟨ho1, ho2⟩ := ho
              rw [ho1] at hK6 hl6
              clear ho1
              have HR6 := Lib.hid (blk_reads hK6 hl6 (by omega))
              have HWANTd := Lib.hid (ReadsInt.mods HWANTc.out hMd (fun ad h => by cases h; simp; omega))
              have HE6 := Lib.hid hE6
              have HP6 := Lib.hid ho2
              have HBd := Lib.hid (Below.then_mods HBc.out HBc.out.size hMd (by simp; omega))
              clear hMd hK6 hF6 hE6 ho2
              go_wp2_with fail
              refine (answers07 wd).mono ?_
              rintro en we ⟨rfl, hBe⟩
              have HR7 := Lib.hid (ReadsInt.below HR6.out hBe); have HL7 := Lib.hid (ReadsInt.below HWANTd.out hBe)
              have hE7 : Eye we gx Ax PB p6 false := HE6.out.mods (Mods.of_below hBe []) (by simp) (by simp)
              have HBe := Lib.hid (below_then HBd.out HBd.out.size hBe)
              have HE7 := Lib.hid hE7
              clear hBe hE7
              go_wp2_with fail
              refine (ints_same (some ⟨G6, 0, none⟩) (some ⟨g4, 0, none⟩) i i c4 (wantS ls (a :: b2 :: t)) we HR7.out HL7.out).mono ?_
              rintro en wf ⟨rfl, hBf⟩
              obtain ⟨_, _, ⟨cx, hbx⟩, _⟩ := HE7.out.mods (Mods.of_below hBf []) (by simp) (by simp)
              have hx1 : wf.cell? ⟨gx, 1, none⟩ = some (.int .i64 p6) := by rw [cell_blk hbx]; rfl
              have HBf := Lib.hid (below_then HBe.out HBe.out.size hBf)
              have d9 : ((p6 : Int) == (L.length : Int)) = true := by rw [HP6.out]; simp
              have d10 : (p6 == L.length) = true := by rw [HP6.out]; simp
              clear hBf hbx
              go_wp2_with fail
              go_ret
              exact ⟨rfl, HBf.out⟩
            · rw [HRD.out] at hF6; cases hF6
  · have hwr : Calls Try.prog 7 #[.pointer (some ⟨w.heap.size, 0, none⟩), .slice A2 n c2] w2 (fun e w' => e = .returned (.bool false) ∧ Below w2.heap.size w2 w') := by
      rcases Nat.eq_zero_or_pos n with q | q
      · subst q
        have : ls = [] := List.length_eq_zero_iff.1 HLN.out
        subst this
        exact write_none w.heap.size A2 c2 w2 HR2.out
      · refine write_bad w.heap.size A2 n c2 ls w2 HR2.out q (by omega) HMX.out ?_
        by_cases hp : ∃ t, 0 < ln ls t
        · refine .inl ⟨hp, fun hck => hgood ⟨by rw [HLN.out]; exact q, fun x hx => (lens_bounds hck x hx).1, .inr hck⟩⟩
        · have hle : ∀ t, ln ls t ≤ 0 := fun t => Int.not_lt.1 (fun h => hp ⟨t, h⟩)
          refine .inr ⟨hle, fun hnn => hgood ⟨by rw [HLN.out]; exact q, hnn, .inl (fun t => ?_)⟩⟩
          by_cases ht : t < ls.length
          · have := hnn _ (ln_mem ht); have := hle t; omega
          · exact ln_beyond (by omega)
    have HWRT := Lib.hid hwr
    have HBADC := Lib.hid (show ∀ b : Bool, (b = true ↔ n = 0 ∨ ¬ NoNeg ls) → b = true ∨ (0 < many ls ∧ checkS ls ≠ 0) from fun b hb => by
      rcases Bool.eq_false_or_eq_true b with q | q
      · exact .inl q
      · right
        have hnot : ¬ (n = 0 ∨ ¬ NoNeg ls) := fun h => by rw [hb.2 h] at q; cases q
        have hn0 : n ≠ 0 := fun h => hnot (.inl h)
        have hnn : NoNeg ls := Classical.byContradiction fun h => hnot (.inr h)
        have hck : checkS ls ≠ 0 := fun h => hgood ⟨by rw [HLN.out]; omega, hnn, .inr h⟩
        refine ⟨?_, hck⟩
        have hp : ∃ t, 0 < ln ls t := Classical.byContradiction fun h => hgood ⟨by rw [HLN.out]; omega, hnn, .inl (fun t => by
          by_cases ht : t < ls.length
          · have := hnn _ (ln_mem ht)
            have h2 : ¬ 0 < ln ls t := fun q => h ⟨t, q⟩
            omega
          · exact ln_beyond (by omega))⟩
        obtain ⟨t, ht⟩ := hp
        exact many_pos_of ht)
    clear hwr hgood
    go_wp2_with fail
    refine HWRT.out.mono ?_
    rintro en w3 ⟨rfl, hB3⟩
    have HBW3 := Lib.hid (below_then HBW2.out HBW2.out.size hB3)
    have HRA3 := Lib.hid (ReadsInt.below HRR.out HBW3.out)
    have HW3 := Lib.hid (HW2.out.mods (Mods.of_below hB3 []) (by simp) (by simp))
    have hz3 := hB3.size
    clear hB3 HWRT
    go_wp2_with (at_builtin; refine print_append_row w3.heap.size rfl _ _ 22 3 .i64 8 rfl Try.underlying22 info_int (by decide) _ [] ls A n c rfl rfl (by exact own_lit w3 w3.heap.size 3 .i64 [] (Nat.le_refl _) (by decide)) (by exact HRA3.out.below ((Below.refl _ w3).alloc (Nat.le_refl _) _)) ((Below.refl _ w3).alloc (Nat.le_refl _) _) (by simp) (by simp; omega) ?_)
    intro v4 w4 hown4 hB4 _ _
    rw [HLN.out] at hown4
    have HO4 := Lib.hid hown4
    have HRA4 := Lib.hid (ReadsInt.below HRA3.out hB4)
    have HBW4 := Lib.hid (below_then HBW3.out HBW3.out.size hB4)
    have HW4 := Lib.hid (HW3.out.mods (Mods.of_below hB4 []) (by simp) (by simp))
    have hz4 := hB4.size
    clear hown4 hB4
    obtain ⟨A4, c4, rfl, hr4⟩ := own_reads HO4.out
    clear hr4
    obtain ⟨bn, hbn⟩ : ∃ bn : Bool, ((n : Int) == 0) = bn := ⟨_, rfl⟩
    have HBNN := Lib.hid hbn
    go_wp2_with fail
    go_loop [8, 9, 10] (fun sv bv iv => ∃ (i : Nat) (b : Bool), i ≤ n ∧ iv = .int .i64 i ∧ sv = .int .i64 (mnUp ls i : Nat) ∧ bv = .bool b ∧ Hid (Neg0 ls i b)) (fun _ _ iv => n - (intOf iv).toNat)
    case atStart => exact ⟨0, bn, by omega, rfl, by simp [mnUp], rfl, Lib.hid (by unfold Neg0; rw [HLN.out, ← HBNN.out]; simp)⟩
    case round =>
      obtain ⟨i, b, hi, rfl, rfl, rfl, HNG⟩ := hrel
      have hmu := mnUp_le ls i
      by_cases hlt : i < n
      · obtain ⟨ad, hA, hcell⟩ := ReadsInt.at_ HRA4.out (i : Int) (by omega) (by omega)
        rw [Int.toNat_natCast, rd_lnS] at hcell
        subst hA
        have d1 : decide ((i : Int) < (n : Int)) = true := decide_eq_true (by omega)
        have d2 : decide (i < n) = true := decide_eq_true hlt
        have HMS := Lib.hid (mnUp_succ ls i)
        have HNX := Lib.hid (show ∀ b' : Bool, (b' = true ↔ b = true ∨ ln ls i < 0) → Neg0 ls (i + 1) b' from fun b' hb => by
          unfold Neg0
          have hq : b = true ↔ _ := HNG.out
          rw [hb, hq, some_neg_up]
          exact ⟨fun h => h.elim (fun h => h.elim .inl (fun h => .inr (.inl h))) (fun h => .inr (.inr h)), fun h => h.elim (fun h => .inl (.inl h)) (fun h => h.elim (fun h => .inl (.inr h)) .inr)⟩)
        obtain ⟨x, hxx⟩ : ∃ x, ln ls i = x := ⟨_, rfl⟩
        rw [hxx] at hcell HMS HNX
        clear hxx
        cases b
        · by_cases hx0 : x < 0
          · have d3 : decide (x < 0) = true := decide_eq_true hx0
            have d4 : decide (0 < x) = false := decide_eq_false (by omega)
            go_wp2_with fail
            go_round
            case rel => exact ⟨i + 1, true, by omega, by go_num, by rw [HMS.out, if_neg (by omega)]; rfl, rfl, Lib.hid (HNX.out true (by simp [hx0]))⟩
            case measure => simp [intOf]; omega
          · have d3 : decide (x < 0) = false := decide_eq_false hx0
            by_cases hx1 : 0 < x
            · have d4 : decide (0 < x) = true := decide_eq_true hx1
              go_wp2_with fail
              go_round
              case rel => exact ⟨i + 1, false, by omega, by go_num, by rw [HMS.out, if_pos hx1]; go_num, rfl, Lib.hid (HNX.out false (by simp; omega))⟩
              case measure => simp [intOf]; omega
            · have d4 : decide (0 < x) = false := decide_eq_false hx1
              go_wp2_with fail
              go_round
              case rel => exact ⟨i + 1, false, by omega, by go_num, by rw [HMS.out, if_neg hx1]; rfl, rfl, Lib.hid (HNX.out false (by simp; omega))⟩
              case measure => simp [intOf]; omega
        · by_cases hx1 : 0 < x
          · have d4 : decide (0 < x) = true := decide_eq_true hx1
            go_wp2_with fail
            go_round
            case rel => exact ⟨i + 1, true, by omega, by go_num, by rw [HMS.out, if_pos hx1]; go_num, rfl, Lib.hid (HNX.out true (by simp))⟩
            case measure => simp [intOf]; omega
          · have d4 : decide (0 < x) = false := decide_eq_false hx1
            go_wp2_with fail
            go_round
            case rel => exact ⟨i + 1, true, by omega, by go_num, by rw [HMS.out, if_neg hx1]; rfl, rfl, Lib.hid (HNX.out true (by simp))⟩
            case measure => simp [intOf]; omega
      · have d1 : decide ((i : Int) < (n : Int)) = false := decide_eq_false (by omega)
        have d2 : decide (i < n) = false := decide_eq_false hlt
        obtain rfl : i = n := by omega
        have HNEG := Lib.hid (show b = true ↔ i = 0 ∨ ¬ NoNeg ls from by
          have h := HNG.out
          unfold Neg0 at h
          rw [HLN.out] at h
          rw [h, noneg_ln, HLN.out]; simp)
        have HMM := Lib.hid (show mnUp ls i = many ls from by unfold many; rw [HLN.out])
        have hcb := HBADC.out b HNEG.out
        rw [HMM.out]
        obtain ⟨m, hmm⟩ : ∃ m, many ls = m := ⟨_, rfl⟩
        have hmb : m ≤ i := by rw [← hmm, ← HMM.out]; exact hmu
        rw [hmm] at hcb
        rw [hmm]
        have HRc := Lib.hid (ReadsInt.below HRR.out HBW4.out)
        clear HNEG HMM hmm d1 d2 HBADC HNG hmu HRA4
        by_cases hm0 : 0 < m
        · have d5 : decide ((0 : Int) < (m : Int)) = true := decide_eq_true (by omega)
          have d6 : decide (0 < m) = true := decide_eq_true hm0
          go_wp2_with fail
          refine (refCheck_any A i c ls w4 HRc.out (by omega)).mono ?_
          rintro en w' ⟨rfl, rfl⟩
          obtain ⟨cc, hcc⟩ : ∃ cc, checkS ls = cc := ⟨_, rfl⟩
          rw [hcc] at hcb
          rw [hcc]
          clear hcc
          by_cases hc0 : cc = 0
          · have hb : b = true := by
              rcases hcb with q | q
              · exact q
              · exact absurd hc0 q.2
            subst hb hc0
            clear hcb
            go_wp2_with fail
            refine (answers07 w4).mono ?_
            rintro en w5 ⟨rfl, hB5⟩
            have HW5 := Lib.hid (HW4.out.mods (Mods.of_below hB5 []) (by simp) (by simp))
            have HB5 := Lib.hid (below_then HBW4.out HBW4.out.size hB5)
            clear hB5
            go_wp2_with fail
            refine (w_len w.heap.size (.slice none 0 0) [] w5 HW5.out).mono ?_
            rintro en w' ⟨rfl, rfl⟩
            go_wp2_with fail
            go_ret
            exact ⟨rfl, HB5.out⟩
          · have hcn : (cc != 0) = true := by simp [hc0]
            clear hcb hc0
            go_wp2_with fail
            refine (answers07 w4).mono ?_
            rintro en w5 ⟨rfl, hB5⟩
            have HW5 := Lib.hid (HW4.out.mods (Mods.of_below hB5 []) (by simp) (by simp))
            have HB5 := Lib.hid (below_then HBW4.out HBW4.out.size hB5)
            clear hB5
            go_wp2_with fail
            refine (w_len w.heap.size (.slice none 0 0) [] w5 HW5.out).mono ?_
            rintro en w' ⟨rfl, rfl⟩
            go_wp2_with fail
            go_ret
            exact ⟨rfl, HB5.out⟩
        · have hb : b = true := by
            rcases hcb with q | q
            · exact q
            · exact absurd q.1 hm0
          subst hb
          have d5 : decide ((0 : Int) < (m : Int)) = false := decide_eq_false (by omega)
          have d6 : decide (0 < m) = false := decide_eq_false hm0
          clear hcb
          go_wp2_with fail
          refine (answers07 w4).mono ?_
          rintro en w5 ⟨rfl, hB5⟩
          have HW5 := Lib.hid (HW4.out.mods (Mods.of_below hB5 []) (by simp) (by simp))
          have HB5 := Lib.hid (below_then HBW4.out HBW4.out.size hB5)
          clear hB5
          go_wp2_with fail
          refine (w_len w.heap.size (.slice none 0 0) [] w5 HW5.out).mono ?_
          rintro en w' ⟨rfl, rfl⟩
          go_wp2_with fail
          go_ret
          exact ⟨rfl, HB5.out⟩
end Go.Proofs.Ytbljoihnjhllhaa
