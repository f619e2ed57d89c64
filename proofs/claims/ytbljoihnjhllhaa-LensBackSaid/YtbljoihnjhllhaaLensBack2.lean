/- The reference's Lens, of any bits: one symbol, or two. -/
import Derived.Test.YtbljoihnjhllhaaLensBack1
import Derived.Test.YtbljoihnjhllhaaLensFlat24
namespace Go.Proofs.Ytbljoihnjhllhaa
open Go.RowKit
open Go.Proofs.YtbljoihnjhllhaaW.PrintWords
open Srt

/-- What ref.Lens answers. -/
def RLPost (g : Nat) (A : Option Addr) (bs : List Int) (p k : Nat) (w : World) (en : Ending) (w' : World) : Prop :=
  Mods [g] w w' ∧ ((∃ G out p', en = .returned (.tuple #[.slice (some ⟨G, 0, none⟩) k k, .int .i64 0]) ∧ w.heap.size ≤ G ∧ BlkI w' G out ∧ out.length = k ∧ checkS out = 0 ∧ Eye w' g A bs p' false ∧ lensF bs p k = .ok out p') ∨
    (∃ e, en = .returned (.tuple #[.slice none 0 0, .int .i64 e]) ∧ e ≠ 0 ∧ (∃ q o, Eye w' g A bs q o) ∧ lensF bs p k = .err e))
theorem wide_mul (v : Int) (h : v = 0 ∨ v = 1) : wrap64 (1 + wrap64 (7 * v)) = 1 + 7 * v := by
  rw [w64 (7 * v) (by omega) (by omega), w64 _ (by omega) (by omega)]
set_option maxRecDepth 100000 in
set_option maxHeartbeats 8000000 in
theorem ref_lens_simple (g : Nat) (A : Option Addr) (bs : List Int) (p k : Nat) (w : World) (h : Eye w g A bs p false) (hA : ∀ ad, A = some ad → ad.block < w.heap.size) (hk1 : 1 ≤ k) (hk : k ≤ 4096) (hp : p + 1 ≤ 8 * bs.length) (hb : bitAt bs p = 1) :
    Calls Try.prog 13 #[.pointer (some ⟨g, 0, none⟩), .int .i64 k] w (RLPost g A bs p k w) := by
  have hgl := h.lt
  have HE := Lib.hid (show EyE w g A bs p 0 from ⟨p, h, fun _ => rfl⟩)
  have HA := Lib.hid hA; have HP := Lib.hid hp; have HB := Lib.hid hb
  have hmk := print_make (P := Try.prog) 22 3 .i64 8 Try.underlying22 info_int (by decide) k (by omega)
  clear h hA hp hb
  go_enter Try.func13, Try.ntmps13
  go_wp2_with fail
  rw [made_blk]
  have HK := Lib.hid (show BlkI (w.alloc (.cells ((List.replicate k (0 : Int)).map (Value.int .i64)).toArray 3)) w.heap.size (zeros k) from alloc_new _ _ _)
  have HM := Lib.hid (show Mods [g] w (w.alloc (.cells ((List.replicate k (0 : Int)).map (Value.int .i64)).toArray 3)) from (Mods.refl _ _).alloc _)
  have HE1 := Lib.hid (HE.out.mods ((Mods.refl [] w).alloc (.cells ((List.replicate k (0 : Int)).map (Value.int .i64)).toArray 3)) (by simp) (by simp))
  generalize w.alloc (.cells ((List.replicate k (0 : Int)).map (Value.int .i64)).toArray 3) = w1 at *
  clear hmk
  have hAs : ∀ ad, A = some ad → ad.block ∉ [w.heap.size] := fun ad e => by have := HA.out ad e; simp; omega
  have HAS := Lib.hid hAs
  clear hAs
  refine (num_e g A bs p 0 1 w1 HE1.out (.inl rfl) (by omega) (by omega)).mono ?_
  rintro en w2 ⟨v, p2, e2, rfl, hE2, hM2, hN2, _, _, _⟩
  have hN2' : v = 1 ∧ p2 = p + 1 ∧ e2 = 0 := by
    rcases hN2.fine with ⟨a, _⟩ | ⟨_, b, c, d⟩
    · have := HP.out; omega
    · exact ⟨by rw [b, bitsVal_one]; exact HB.out, c, d⟩
  obtain ⟨rfl, rfl, rfl⟩ := hN2'
  have HE2 := Lib.hid hE2; have HK2 := Lib.hid (HK.out.mods hM2 (by simp; omega)); have HM2 := Lib.hid (HM.out.trans hM2)
  clear hE2 hM2 hN2
  go_wp2_with fail
  refine (num_e g A bs (p + 1) 0 1 w2 HE2.out (.inl rfl) (by omega) (by omega)).mono ?_
  rintro en w3 ⟨v1, p3, e3, rfl, hE3, hM3, hN3, hv1a, hv1b, he3⟩
  have HE3 := Lib.hid hE3; have HK3 := Lib.hid (HK2.out.mods hM3 (by simp; omega)); have HM3 := Lib.hid (HM2.out.trans hM3); have HN3 := Lib.hid hN3; have HX3 := Lib.hid he3
  clear hE3 hM3 hN3 he3
  have i1 : wrap64 (v1 + 1) = v1 + 1 := w64 _ (by omega) (by omega)
  go_wp2_with fail
  refine (num_e g A bs p3 e3 1 w3 HE3.out HX3.out (by omega) (by omega)).mono ?_
  rintro en w4 ⟨v2, p4, e4, rfl, hE4, hM4, hN4, hv2a, hv2b, he4⟩
  have HE4 := Lib.hid hE4; have HK4 := Lib.hid (HK3.out.mods hM4 (by simp; omega)); have HM4 := Lib.hid (HM3.out.trans hM4); have HN4 := Lib.hid hN4; have HX4 := Lib.hid he4
  clear hE4 hM4 hN4 he4
  have hv2 : v2 = 0 ∨ v2 = 1 := by omega
  obtain ⟨wd, hwd⟩ : ∃ wd : Nat, 1 + 7 * v2 = wd := Int.eq_ofNat_of_zero_le (by omega)
  have hwd2 : 0 < wd ∧ wd ≤ 8 := by omega
  have HWD := Lib.hid (show wd = if v2 = 1 then 8 else 1 from by split <;> omega)
  have i2 := wide_mul v2 hv2
  have i3 : 7 * v2 ≤ 7 := by omega
  rw [hwd] at i2
  go_wp2_with fail
  refine (num_e g A bs p4 e4 wd w4 HE4.out HX4.out hwd2.1 (by omega)).mono ?_
  rintro en w5 ⟨v3, p5, e5, rfl, hE5, hM5, hN5, hv3a, hv3b, he5⟩
  have HE5 := Lib.hid hE5; have HK5 := Lib.hid (HK4.out.mods hM5 (by simp; omega)); have HM5 := Lib.hid (HM4.out.trans hM5); have HN5 := Lib.hid hN5; have HX5 := Lib.hid he5
  have hv3c : v3 < 256 := by
    have : (2 : Int) ^ wd ≤ 2 ^ 8 := by exact_mod_cast Nat.pow_le_pow_right (by decide) hwd2.2
    omega
  have hs5 := hE5.short
  clear hE5 hM5 hN5 he5 hv3b i2 i3 hwd
  have hv1 : v1 = 0 ∨ v1 = 1 := by omega
  have HREF := Lib.hid (show ∀ v4 p' e', ((v1 = 1 ∧ NumR bs p5 e5 8 v4 p' e') ∨ (v1 ≠ 1 ∧ p' = p5 ∧ e' = e5)) → SimN bs (p + 1) v1 v2 v3 v4 wd p' e' from fun v4 p' e' hq => ⟨⟨p3, p4, p5, e3, e4, e5, HN3.out, HN4.out, HN5.out, hq⟩, HWD.out⟩)
  have HLE := Lib.hid (show ∀ e, e ≠ 0 → simpleF bs (p + 1) k = .err e → lensF bs p k = .err e from fun e he hs => by
    have h := lensF_one (e := e) (out := []) (q := 0) HP.out HB.out (by rw [hs]; unfold resE; rw [if_neg he])
    rw [if_neg he] at h; exact h)
  have HLO := Lib.hid (show ∀ l q, checkS l = 0 → simpleF bs (p + 1) k = .ok l q → lensF bs p k = .ok l q from fun l q hc hs => by
    have h := lensF_one (e := 0) (out := l) (q := q) HP.out HB.out (by rw [hs]; rfl)
    rw [if_pos rfl, if_pos hc] at h; exact h)
  obtain ⟨sN, hsN⟩ := Int.eq_ofNat_of_zero_le hv3a
  subst hsN
  by_cases he : e5 = 0
  · subst he
    have hs5' : w5.cell? ⟨g, 2, none⟩ = some (.bool false) := hs5
    clear hs5
    rcases hv1 with rfl | rfl
    · -- one symbol
      have HS := Lib.hid (HREF.out 0 p5 0 (.inr ⟨by decide, rfl, rfl⟩))
      have HG := Lib.hid (HS.out.good k rfl)
      have e1 : ((1 : Int) == 2) = false := rfl
      by_cases hlt : sN < k
      · have hl := lay1 k sN
        have HL := Lib.hid (show simpleF bs (p + 1) k = .ok ((zeros k).set sN 1) p5 from by
          have h := HG.out
          rw [show decide ((0 : Int) = 1) = false from rfl] at h
          rw [h]
          have e : twoS false (sN : Int) 0 = [(sN : Int)] := rfl
          rw [hl.1, if_pos (decide_eq_true hlt), hot_eq (hl.2 hlt) (show Hot k sN ((zeros k).set sN 1) from hot_set k sN hlt)])
        have HH := Lib.hid (show Hot k sN ((zeros k).set sN 1) from hot_set k sN hlt)
        have d1 : decide ((k : Int) ≤ (sN : Int)) = false := decide_eq_false (by omega)
        have d2 : decide (k ≤ sN) = false := decide_eq_false (by omega)
        have d3 : decide ((k : Int) ≤ -1) = false := decide_eq_false (by omega)
        have d4 : ((sN : Int) == -1) = false := beq_eq_false_iff_ne.2 (by omega)
        have d5 : (sN : Int) < (k : Int) := by omega
        have hf := free_blk HK5.out sN
        obtain ⟨x, hcx⟩ : ∃ x, w5.cell? ⟨w.heap.size, sN, none⟩ = some (.int .i64 x) := ⟨_, HK5.out.at sN (by simp [zeros]; omega)⟩
        clear hl
        go_wp2_with fail
        go_ret2
        refine ⟨HM5.out.setCell (.inr (Nat.le_refl _)) _, .inl ⟨w.heap.size, (zeros k).set sN 1, p5, rfl, Nat.le_refl _, HK5.out.set sN 1, by simp [zeros], HH.out.check, ?_, HLO.out _ _ HH.out.check HL.out⟩⟩
        exact (HE5.out.mods (S := [w.heap.size]) ((Mods.refl _ _).setCell (by simp) _) (by simp; omega) HAS.out).fine
      · have hl := lay1 k sN
        have HL := Lib.hid (show simpleF bs (p + 1) k = .err 3 from by
          have h := HG.out
          rw [show decide ((0 : Int) = 1) = false from rfl] at h
          rw [h, hl.1, decide_eq_false hlt]; rfl)
        have d1 : decide ((k : Int) ≤ (sN : Int)) = true := decide_eq_true (by omega)
        have d2 : decide (k ≤ sN) = true := decide_eq_true (by omega)
        clear hl
        go_wp2_with fail
        go_ret2
        exact ⟨HM5.out, .inr ⟨3, rfl, by decide, ⟨p5, false, HE5.out.fine⟩, HLE.out 3 (by decide) HL.out⟩⟩
    · -- two symbols
      have e1 : ((2 : Int) == 2) = true := rfl
      go_wp2_with fail
      refine (num_e g A bs p5 0 8 w5 HE5.out (.inl rfl) (by omega) (by omega)).mono ?_
      rintro en w6 ⟨v4, p6, e6, rfl, hE6, hM6, hN6, hv4a, hv4b, he6⟩
      have HE6 := Lib.hid hE6; have HK6 := Lib.hid (HK5.out.mods hM6 (by simp; omega)); have HM6 := Lib.hid (HM5.out.trans hM6); have HX6 := Lib.hid he6
      have HS := Lib.hid (HREF.out v4 p6 e6 (by first | exact .inl ⟨rfl, hN6⟩ | exact .inl ⟨trivial, hN6⟩ | (simp; exact hN6)))
      have hs6 := hE6.short
      clear hE6 hM6 hN6 he6 hs5'
      obtain ⟨tN, htN⟩ := Int.eq_ofNat_of_zero_le hv4a
      subst htN
      by_cases he6 : e6 = 0
      · subst he6
        have hs6' : w6.cell? ⟨g, 2, none⟩ = some (.bool false) := hs6
        clear hs6
        have HG := Lib.hid (HS.out.good k rfl)
        have hl := lay2 k sN tN
        by_cases hall : sN < k ∧ tN < k ∧ sN ≠ tN
        · obtain ⟨ha1, ha2, ha3⟩ := hall
          have HL := Lib.hid (show simpleF bs (p + 1) k = .ok (((zeros k).set sN 1).set tN 1) p6 from by
            have h := HG.out
            rw [show decide ((1 : Int) = 1) = true from rfl] at h
            rw [h, hl.1, if_pos (by simp [ha1, ha2, ha3]), hot2_eq (hl.2 ha1 ha2 ha3) (show Hot2 k sN tN (((zeros k).set sN 1).set tN 1) from hot2_set k sN tN ha1 ha2 ha3)])
          have HH := Lib.hid (show Hot2 k sN tN (((zeros k).set sN 1).set tN 1) from hot2_set k sN tN ha1 ha2 ha3)
          have d1 : decide ((k : Int) ≤ (sN : Int)) = false := decide_eq_false (by omega)
          have d2 : decide (k ≤ sN) = false := decide_eq_false (by omega)
          have d3 : decide ((k : Int) ≤ (tN : Int)) = false := decide_eq_false (by omega)
          have d4 : decide (k ≤ tN) = false := decide_eq_false (by omega)
          have d5 : ((sN : Int) == (tN : Int)) = false := beq_eq_false_iff_ne.2 (by omega)
          have d6 : (sN == tN) = false := beq_eq_false_iff_ne.2 ha3
          have d7 : (sN : Int) < (k : Int) := by omega
          have d8 : (tN : Int) < (k : Int) := by omega
          have d9 : decide ((0 : Int) ≤ (tN : Int)) = true := decide_eq_true (by omega)
          have hf := free_blk HK6.out sN
          have HK7 := Lib.hid (HK6.out.set sN 1)
          have hf2 := free_blk HK7.out tN
          obtain ⟨x, hcx⟩ : ∃ x, w6.cell? ⟨w.heap.size, sN, none⟩ = some (.int .i64 x) := ⟨_, HK6.out.at sN (by simp [zeros]; omega)⟩
          obtain ⟨y, hcy⟩ : ∃ y, (w6.setCell ⟨w.heap.size, sN, none⟩ (.int .i64 1)).cell? ⟨w.heap.size, tN, none⟩ = some (.int .i64 y) := ⟨_, HK7.out.at tN (by simp [zeros]; omega)⟩
          clear hl
          go_wp2_with fail
          go_ret2
          refine ⟨(HM6.out.setCell (.inr (Nat.le_refl _)) _).setCell (.inr (Nat.le_refl _)) _, .inl ⟨w.heap.size, ((zeros k).set sN 1).set tN 1, p6, rfl, Nat.le_refl _, HK7.out.set tN 1, by simp [zeros], HH.out.check, ?_, HLO.out _ _ HH.out.check HL.out⟩⟩
          exact (HE6.out.mods (S := [w.heap.size]) (((Mods.refl _ _).setCell (by simp) _).setCell (by simp) _) (by simp; omega) HAS.out).fine
        · have HL := Lib.hid (show simpleF bs (p + 1) k = .err 3 from by
            have h := HG.out
            rw [show decide ((1 : Int) = 1) = true from rfl] at h
            rw [h, hl.1, if_neg]
            intro q
            simp at q
            exact hall ⟨q.1.1, q.1.2, q.2⟩)
          have HEND := Lib.hid (show RLPost g A bs p k w (.returned (.tuple #[.slice none 0 0, .int .i64 3])) w6 from ⟨HM6.out, .inr ⟨3, rfl, by decide, ⟨p6, false, HE6.out.fine⟩, HLE.out 3 (by decide) HL.out⟩⟩)
          clear hl
          by_cases b1 : k ≤ sN
          · have d1 : decide ((k : Int) ≤ (sN : Int)) = true := decide_eq_true (by omega)
            have d2 : decide (k ≤ sN) = true := decide_eq_true b1
            go_wp2_with fail
            go_ret2
            exact HEND.out
          · have d1 : decide ((k : Int) ≤ (sN : Int)) = false := decide_eq_false (by omega)
            have d2 : decide (k ≤ sN) = false := decide_eq_false b1
            by_cases b2 : k ≤ tN
            · have d3 : decide ((k : Int) ≤ (tN : Int)) = true := decide_eq_true (by omega)
              have d4 : decide (k ≤ tN) = true := decide_eq_true b2
              go_wp2_with fail
              go_ret2
              exact HEND.out
            · have d3 : decide ((k : Int) ≤ (tN : Int)) = false := decide_eq_false (by omega)
              have d4 : decide (k ≤ tN) = false := decide_eq_false b2
              have b3 : sN = tN := Classical.byContradiction fun q => hall ⟨by omega, by omega, q⟩
              have d5 : ((sN : Int) == (tN : Int)) = true := by simp [b3]
              have d6 : (sN == tN) = true := by simp [b3]
              clear b3
              go_wp2_with fail
              go_ret2
              exact HEND.out
      · have hb := HS.out.bad k he6
        have HL := Lib.hid hb.2
        obtain rfl := hb.1
        have hs6' : w6.cell? ⟨g, 2, none⟩ = some (.bool true) := hs6
        clear hs6 hb
        go_wp2_with fail
        go_ret2
        obtain ⟨q6, hq6, _⟩ := HE6.out
        exact ⟨HM6.out, .inr ⟨2, rfl, by decide, ⟨q6, _, hq6⟩, HLE.out 2 (by decide) HL.out⟩⟩
  · have hb : e5 = 2 ∧ simpleF bs (p + 1) k = .err 2 := by
      rcases hv1 with rfl | rfl
      · exact (HREF.out 0 p5 e5 (.inr ⟨by decide, rfl, rfl⟩)).bad k he
      · exact (HREF.out 0 p5 e5 (.inl ⟨rfl, .inl ⟨he, rfl, rfl, rfl⟩⟩)).bad k he
    have HL := Lib.hid hb.2
    obtain rfl := hb.1
    have hs5' : w5.cell? ⟨g, 2, none⟩ = some (.bool true) := hs5
    clear hs5 hb
    go_wp2_with fail
    go_ret2
    obtain ⟨q5, hq5, _⟩ := HE5.out
    exact ⟨HM5.out, .inr ⟨2, rfl, by decide, ⟨q5, _, hq5⟩, HLE.out 2 (by decide) HL.out⟩⟩
end Go.Proofs.Ytbljoihnjhllhaa
