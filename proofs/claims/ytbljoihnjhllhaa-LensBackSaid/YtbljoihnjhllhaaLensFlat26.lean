/- lens.Write: which lengths may be written, and as which bits. -/
import Derived.Test.YtbljoihnjhllhaaLensFlat25
import Derived.Test.YtbljoihnjhllhaaLensFlat24
import Derived.Test.YtbljoihnjhllhaaLensFlat3
import Derived.Test.YtbljoihnjhllhaaLensFlat4
namespace Go.Proofs.Ytbljoihnjhllhaa
open Go.RowKit
open Go.Proofs.YtbljoihnjhllhaaW.PrintWords
open Srt Sz

theorem minTo_nn {ls : List Int} (h : NoNeg ls) : ∀ k, k ≤ ls.length → 0 ≤ minTo ls k := by
  have hr : ∀ i : Nat, i < ls.length → 0 ≤ rd ls (i : Int) := fun i hi => by
    rw [rd_lnS]; exact h _ (ln_mem hi)
  have hr0 : 0 ≤ rd ls 0 := by
    rcases Nat.eq_zero_or_pos ls.length with q | q
    · rw [List.length_eq_zero_iff.1 q]; decide
    · exact hr 0 q
  intro k
  induction k with
  | zero => intro _; exact hr0
  | succ k ih =>
    intro hk
    unfold minTo
    split
    · exact hr k (by omega)
    · exact ih (by omega)
theorem minTo_le (ls : List Int) : ∀ k j : Nat, j < k → minTo ls k ≤ rd ls (j : Int) := by
  intro k
  induction k with
  | zero => intro j h; omega
  | succ k ih =>
    intro j hj
    unfold minTo
    by_cases e : j = k
    · subst e; split <;> omega
    · have := ih j (by omega)
      split <;> omega
theorem minTo_neg {ls : List Int} (h : ¬ NoNeg ls) : minTo ls ls.length < 0 := by
  unfold NoNeg at h
  have : ∃ x ∈ ls, x < 0 := by
    refine Classical.byContradiction fun hn => h fun x hx => ?_
    by_cases q : x < 0
    · exact absurd ⟨x, hx, q⟩ hn
    · omega
  obtain ⟨x, hx, hx0⟩ := this
  obtain ⟨t, ht, rfl⟩ := List.mem_iff_getElem.1 hx
  have := minTo_le ls ls.length t ht
  rw [rd_lnS, ln_get ht] at this
  omega
set_option maxRecDepth 100000 in
set_option maxHeartbeats 4000000 in
theorem write_good (g : Nat) (v : Value) (l : List Int) (A : Option Addr) (n c : Nat) (ls : List Int) (w : World) (h : Wtr w g v l) (HR : ReadsInt w .i64 A n ls) (h1 : 1 ≤ n) (hn : n ≤ 4096) (hz : NoNeg ls) (hc : (∀ t, ln ls t = 0) ∨ checkS ls = 0) (hl : l.length ≤ 1000000) (hm : ∀ x ∈ ls, x ≤ 9223372036854775807) :
    Calls Try.prog 7 #[.pointer (some ⟨g, 0, none⟩), .slice A n c] w fun e w' => e = .returned (.bool true) ∧ ∃ os v', InOrder ls os ∧ Wtr w' g v' (l ++ wrB ls os) ∧ Chg w g v w' v' := by
  have H := Lib.hid h; have HRR := Lib.hid HR; have HNN := Lib.hid hz; have HCC := Lib.hid hc
  have HLN := Lib.hid HR.1
  have HMN := Lib.hid (show minTo ls n = minTo ls n from rfl)
  have hmn : 0 ≤ minTo ls n := minTo_nn hz n (by rw [HR.1]; exact Nat.le_refl _)
  have hgl : g < w.heap.size := blk_lt h.2.2.1
  have HVB := Lib.hid (fun b (hb : v.ownBlock = some b) => own_lt h.2.2.2 b hb)
  have HMX := Lib.hid hm
  obtain ⟨mn, hmn'⟩ : ∃ mn, minTo ls n = mn := ⟨_, rfl⟩
  rw [hmn'] at hmn
  have HM' := Lib.hid hmn'
  clear h HR hz hc hmn' hm
  go_enter Try.func7, Try.ntmps7
  go_wp2_with fail
  refine (order_any A n c ls w HRR.out (by omega) HMX.out).mono ?_
  rintro e w1 ⟨hB1, v1, os, rfl, hos, hown⟩
  have HR1 := Lib.hid (ReadsInt.below HRR.out hB1)
  have HW1 := Lib.hid (H.out.mods (Mods.of_below hB1 []) (by simp) (by simp))
  have HB1 := Lib.hid hB1
  have hz1 := hB1.size
  have HOS := Lib.hid hos
  have HC1 := Lib.hid (Chg.refl w1 g v)
  have HFIN := Lib.hid (show ∀ w' v', Chg w1 g v w' v' → Chg w g v w' v' from fun w' v' hC => ⟨Mods.trans_new ((Mods.of_below HB1.out []).mono (by simp)) hC.mods (fun r hr => .inl hr), by
    rcases hC.own with e | ⟨b, e, hb⟩
    · exact .inl e
    · exact .inr ⟨b, e, Nat.le_trans HB1.out.size hb⟩⟩)
  clear hB1
  have q1 : decide ((n : Int) < 1) = false := decide_eq_false (by omega)
  have q2 : decide ((4096 : Int) < (n : Int)) = false := decide_eq_false (by omega)
  have q3 : decide (mn < 0) = false := decide_eq_false (by omega)
  match os, hos, hown, HOS with
  | [], hos, hown, HOS =>
    obtain ⟨A1, c1, rfl, hr1⟩ := own_reads hown
    clear hown hos hr1
    go_wp2_with fail
    refine (minI A n c ls w1 HR1.out (by omega) (by omega)).mono ?_
    rintro e w' ⟨rfl, rfl⟩
    rw [HM'.out]
    go_wp2_with fail
    have hBa := (Below.refl w1.heap.size w1).alloc (Nat.le_refl _) (.cells #[.int .i64 0] 3)
    have HRL := Lib.hid (show ReadsInt (w1.alloc (.cells #[.int .i64 0] 3)) .i64 (some ⟨w1.heap.size, 0, none⟩) 1 [0] from reads_lit w1 3 .i64 [0] (by decide))
    have HWa := Lib.hid (HW1.out.mods (Mods.of_below hBa []) (by simp) (by simp)); have HCa := Lib.hid (HC1.out.below hBa)
    clear hBa
    refine (simply1 g v l (some ⟨w1.heap.size, 0, none⟩) 1 0 _ HWa.out HRL.out (by decide) hl (fun ad h => by
      cases h
      exact ⟨by show w1.heap.size ≠ g; omega, fun e => by have h : w1.heap.size < w.heap.size := HVB.out _ e.symm; omega⟩)).mono ?_
    rintro e w2 ⟨rfl, v2, hW2, hC2⟩
    have HW2 := Lib.hid hW2; have HC2 := Lib.hid (HCa.out.step hC2.mods (by
      rcases hC2.own with e | ⟨b, e, hb⟩
      · exact .inl e
      · exact .inr ⟨b, e, hb⟩))
    clear hW2 hC2
    go_wp2_with fail
    go_ret
    exact ⟨rfl, [], v2, HOS.out, by have h := HW2.out; simp only [List.append_assoc] at h; exact h, HFIN.out _ _ HC2.out⟩
  | [a], hos, hown, HOS =>
    have ma := hos.mem (x := a) (by simp)
    obtain ⟨s, hs⟩ := Int.eq_ofNat_of_zero_le ma.1
    subst hs
    rw [Int.toNat_natCast] at ma
    have hck : checkS ls = 0 := by
      rcases HCC.out with q | q
      · have := q s; omega
      · exact q
    have HCK := Lib.hid hck
    obtain ⟨A1, c1, rfl, hr1⟩ := own_reads hown
    obtain ⟨ad1, hA1, hcell1⟩ := ReadsInt.at_ hr1 0 (by simp) (by simp)
    subst hA1
    have hlo := own_base hown ad1.block rfl
    have hhi := own_lt hown ad1.block rfl
    have HC1a := Lib.hid (show w1.cell? ad1 = some (.int .i64 s) from by simpa [Addr.add, rd] using hcell1)
    have HRO := Lib.hid hr1
    have hsn : s < n := by have := HLN.out; omega
    have hs0 := ma.2.2
    have HTW := Lib.hid (show ∀ t, t < ls.length → t ≠ s → ln ls t = 0 from fun t ht hne => ln_out_order HNN.out hos ht (by simp; omega))
    clear hos hown hr1 hcell1 ma hck
    have q4 : ((1 : Int) == 1) = true := rfl
    go_wp2_with fail
    refine (check_any A n c ls w1 HR1.out (by omega)).mono ?_
    rintro e w' ⟨rfl, rfl⟩
    rw [HCK.out]
    go_wp2_with fail
    refine (minI A n c ls w1 HR1.out (by omega) (by omega)).mono ?_
    rintro e w' ⟨rfl, rfl⟩
    rw [HM'.out]
    go_wp2_with fail
    refine (cloneI A n c ls w1 HR1.out (by omega)).mono ?_
    rintro e w2 ⟨v2, rfl, hown2, hB2⟩
    obtain ⟨g2, c2, hv2, hg2⟩ := own_some2 hown2 (by omega)
    subst hv2
    have hlt2 := own_lt hown2 g2 rfl
    have hc1 : w2.cell? ad1 = some (.int .i64 s) := pw_cell_below hB2 HC1a.out
    obtain ⟨hc2, hf2⟩ := own_at hown2 (s : Int) (by omega) (by omega)
    rw [Int.toNat_natCast] at hc2 hf2
    have hc2' : w2.cell? ⟨g2, s, none⟩ = some (.int .i64 (rd ls (s : Int))) := by simpa using hc2
    have hf2' : w2.frozen? ⟨g2, s, none⟩ = false := by simpa using hf2
    have hO2 := own_store hown2 (s : Int) 1
    rw [Int.toNat_natCast] at hO2
    have hmS : Mods [g2] w2 (w2.setCell ⟨g2, s, none⟩ (.int .i64 1)) := (Mods.refl _ _).setCell (by simp) _
    have hne : ad1.block ≠ g2 := by omega
    have hc3 : (w2.setCell ⟨g2, s, none⟩ (.int .i64 1)).cell? ad1 = some (.int .i64 s) := mods_cell hmS hc1 (by simpa using hne)
    have hM13 : Mods [] w1 (w2.setCell ⟨g2, s, none⟩ (.int .i64 1)) := (Mods.of_below hB2 []).trans_new hmS (by simp; omega)
    have HW3 := Lib.hid (HW1.out.mods hM13 (by simp) (by simp))
    have HC3 := Lib.hid (HC1.out.below hM13.below)
    have HRO3 := Lib.hid (ReadsInt.mods HRO.out hM13 (by simp))
    have HR3 : Hid (ReadsInt (w2.setCell ⟨g2, s, none⟩ (.int .i64 1)) .i64 (some ⟨g2, 0, none⟩) n (ls.set s 1)) := Lib.hid (by
      obtain ⟨A', c', he, hr⟩ := own_reads (xs := ls.set s 1) hO2.1
      cases he
      exact hr)
    have d3 : (s : Int) < (n : Int) := by omega
    have HH := Lib.hid (hot_of_set (ls := ls) (a := s) (by have := HLN.out; omega) HTW.out)
    have HLS := Lib.hid (show (ls.set s 1).length = n from by have := HLN.out; simp; exact this)
    clear hown2 hB2 hc2 hf2 hmS hM13 hO2
    by_cases h256 : (s : Int) < 256
    · have d4 : decide ((s : Int) < 256) = true := decide_eq_true h256
      have HB := Lib.hid (show wrB ls [(s : Int)] = simB [(s : Int)] from by unfold wrB; simp only; rw [if_pos h256])
      go_wp2_with fail
      refine (simply1 g v l (some ad1) c1 s _ HW3.out HRO3.out ⟨by omega, h256⟩ hl (fun ad h => by
        cases h
        exact ⟨by omega, fun e => by have h := HVB.out _ e.symm; omega⟩)).mono ?_
      rintro e w4 ⟨rfl, v4, hW4, hC4⟩
      have HW4 := Lib.hid hW4; have HC4 := Lib.hid (HC3.out.step hC4.mods hC4.own)
      clear hW4 hC4
      go_wp2_with fail
      go_ret
      exact ⟨rfl, [(s : Int)], v4, HOS.out, by have h := HW4.out; rw [HB.out]; simp only [List.append_assoc] at h; exact h, HFIN.out _ _ HC4.out⟩
    · have d4 : decide ((s : Int) < 256) = false := decide_eq_false h256
      have HB := Lib.hid (show wrB ls [(s : Int)] = stepB (ls.set s 1) from by unfold wrB; simp only; rw [if_neg h256, Int.toNat_natCast])
      go_wp2_with fail
      refine (normally_any g v l (some ⟨g2, 0, none⟩) n c2 (ls.set s 1) _ HW3.out HR3.out h1 hn (lens_bounds HH.out.check) (by omega)).mono ?_
      rintro e w4 ⟨rfl, v4, hW4, hC4⟩
      have HW4 := Lib.hid hW4; have HC4 := Lib.hid (HC3.out.step hC4.mods hC4.own)
      clear hW4 hC4
      go_wp2_with fail
      go_ret
      exact ⟨rfl, [(s : Int)], v4, HOS.out, by rw [HB.out]; exact HW4.out, HFIN.out _ _ HC4.out⟩
  | [a, b], hos, hown, HOS =>
    have ma := hos.mem (x := a) (by simp)
    have hck : checkS ls = 0 := by
      rcases HCC.out with q | q
      · have := q a.toNat; omega
      · exact q
    have HCK := Lib.hid hck
    obtain ⟨a0, b0, hh⟩ := two_hot hos rfl hck
    obtain ⟨x, hx⟩ := Int.eq_ofNat_of_zero_le a0
    obtain ⟨y, hy⟩ := Int.eq_ofNat_of_zero_le b0
    subst hx hy
    obtain ⟨A1, c1, rfl, hr1⟩ := own_reads hown
    obtain ⟨ad1, hA1, hcell1⟩ := ReadsInt.at_ hr1 0 (by simp) (by simp)
    obtain ⟨ad1', hA1', hcell2⟩ := ReadsInt.at_ hr1 1 (by simp) (by simp)
    subst hA1
    cases hA1'
    have hlo := own_base hown ad1.block rfl
    have hhi := own_lt hown ad1.block rfl
    have hc1 : w1.cell? ad1 = some (.int .i64 x) := by simpa [Addr.add, rd] using hcell1
    have hc2 : w1.cell? (ad1.add 1) = some (.int .i64 y) := by simpa [rd] using hcell2
    have hc2b := hc2
    simp [Addr.add] at hc2b
    have HRO := Lib.hid hr1
    clear hos hown hr1 hcell1 hcell2 ma hck hh
    go_wp2_with fail
    refine (check_any A n c ls w1 HR1.out (by omega)).mono ?_
    rintro e w' ⟨rfl, rfl⟩
    rw [HCK.out]
    go_wp2_with fail
    refine (minI A n c ls w1 HR1.out (by omega) (by omega)).mono ?_
    rintro e w' ⟨rfl, rfl⟩
    rw [HM'.out]
    by_cases hy256 : (y : Int) < 256
    · have d4 : decide ((y : Int) < 256) = true := decide_eq_true hy256
      by_cases hx256 : (x : Int) < 256
      · have d5 : decide ((x : Int) < 256) = true := decide_eq_true hx256
        have HB := Lib.hid (show wrB ls [(x : Int), (y : Int)] = simB [(x : Int), (y : Int)] from by unfold wrB; simp only; rw [if_pos ⟨hx256, hy256⟩])
        go_wp2_with fail
        refine (simply2 g v l (some ad1) c1 x y _ HW1.out HRO.out ⟨by omega, hx256⟩ ⟨by omega, hy256⟩ hl (fun ad h => by
          cases h
          exact ⟨by omega, fun e => by have h := HVB.out _ e.symm; omega⟩)).mono ?_
        rintro e w4 ⟨rfl, v4, hW4, hC4⟩
        have HW4 := Lib.hid hW4; have HC4 := Lib.hid hC4
        clear hW4 hC4
        go_wp2_with fail
        go_ret
        exact ⟨rfl, [(x : Int), (y : Int)], v4, HOS.out, by have h := HW4.out; rw [HB.out]; simp only [List.append_assoc] at h; exact h, HFIN.out _ _ HC4.out⟩
      · have d5 : decide ((x : Int) < 256) = false := decide_eq_false hx256
        have HB := Lib.hid (show wrB ls [(x : Int), (y : Int)] = stepB ls from by unfold wrB; simp only; rw [if_neg (fun q => hx256 q.1)])
        go_wp2_with fail
        refine (normally_any g v l A n c ls _ HW1.out HR1.out h1 hn (lens_bounds HCK.out) (by omega)).mono ?_
        rintro e w4 ⟨rfl, v4, hW4, hC4⟩
        have HW4 := Lib.hid hW4; have HC4 := Lib.hid hC4
        clear hW4 hC4
        go_wp2_with fail
        go_ret
        exact ⟨rfl, [(x : Int), (y : Int)], v4, HOS.out, by rw [HB.out]; exact HW4.out, HFIN.out _ _ HC4.out⟩
    · have d4 : decide ((y : Int) < 256) = false := decide_eq_false hy256
      have HB := Lib.hid (show wrB ls [(x : Int), (y : Int)] = stepB ls from by unfold wrB; simp only; rw [if_neg (fun q => hy256 q.2)])
      go_wp2_with fail
      refine (normally_any g v l A n c ls _ HW1.out HR1.out h1 hn (lens_bounds HCK.out) (by omega)).mono ?_
      rintro e w4 ⟨rfl, v4, hW4, hC4⟩
      have HW4 := Lib.hid hW4; have HC4 := Lib.hid hC4
      clear hW4 hC4
      go_wp2_with fail
      go_ret
      exact ⟨rfl, [(x : Int), (y : Int)], v4, HOS.out, by rw [HB.out]; exact HW4.out, HFIN.out _ _ HC4.out⟩
  | a :: b :: d :: t, hos, hown, HOS =>
    have ma := hos.mem (x := a) (by simp)
    have hck : checkS ls = 0 := by
      rcases HCC.out with q | q
      · have := q a.toNat; omega
      · exact q
    have HCK := Lib.hid hck
    have HB := Lib.hid (show wrB ls (a :: b :: d :: t) = stepB ls from rfl)
    have h3 : 3 ≤ (a :: b :: d :: t).length := by simp
    obtain ⟨A1, c1, rfl, hr1⟩ := own_reads hown
    have hmL : (a :: b :: d :: t).length ≤ 9223372036854775807 := by have := hr1.2.1; exact this
    generalize hOO : a :: b :: d :: t = OS at *
    obtain ⟨m, hm⟩ : ∃ m, OS.length = m := ⟨_, rfl⟩
    rw [hm] at h3 hmL
    rw [hm]
    clear hOO hos hown hr1 ma hck hm
    have d3 : decide ((0 : Int) < (m : Int)) = true := decide_eq_true (by omega)
    have d4 : ((m : Int) == 1) = false := beq_eq_false_iff_ne.2 (by omega)
    have d5 : ((m : Int) == 0) = false := beq_eq_false_iff_ne.2 (by omega)
    have d6 : decide ((m : Int) ≤ 2) = false := decide_eq_false (by omega)
    go_wp2_with fail
    refine (check_any A n c ls w1 HR1.out (by omega)).mono ?_
    rintro e w' ⟨rfl, rfl⟩
    rw [HCK.out]
    go_wp2_with fail
    refine (minI A n c ls w1 HR1.out (by omega) (by omega)).mono ?_
    rintro e w' ⟨rfl, rfl⟩
    rw [HM'.out]
    go_wp2_with fail
    refine (normally_any g v l A n c ls _ HW1.out HR1.out h1 hn (lens_bounds HCK.out) (by omega)).mono ?_
    rintro e w4 ⟨rfl, v4, hW4, hC4⟩
    have HW4 := Lib.hid hW4; have HC4 := Lib.hid hC4
    clear hW4 hC4
    go_wp2_with fail
    go_ret
    exact ⟨rfl, OS, v4, HOS.out, by rw [HB.out]; exact HW4.out, HFIN.out _ _ HC4.out⟩
end Go.Proofs.Ytbljoihnjhllhaa

/- Plain: as many lengths as two to some number, all of that. -/
namespace Go.Proofs.Ytbljoihnjhllhaa
open Srt Sz

def flatS (b _N M k : Nat) : List Int := List.replicate k (b : Int) ++ List.replicate (M - k) 0
theorem flatS_len {b N M k : Nat} (h : k ≤ M) : (flatS b N M k).length = M := by simp [flatS]; omega
theorem flatS_set {b N M k : Nat} (h : k < M) : (flatS b N M k).set k (b : Int) = flatS b N M (k + 1) := by
  unfold flatS
  rw [List.set_append, if_neg (by simp), List.length_replicate, Nat.sub_self, show M - k = (M - (k + 1)) + 1 from by omega, List.replicate_succ, List.set_cons_zero, List.replicate_succ', List.append_assoc]; rfl
theorem flatS_ln {b N M : Nat} (_hN : N ≤ M) (t : Nat) : ln (flatS b N M N) t = if t < N then (b : Int) else 0 := by
  unfold ln flatS
  by_cases h : t < N
  · rw [if_pos h, List.getElem?_append_left (by simpa using h), List.getElem?_replicate, if_pos h]; rfl
  · rw [if_neg h, List.getElem?_append_right (by simpa using h), List.getElem?_replicate]
    split <;> rfl
theorem sumTo_first (c : Int) (m : Nat) : ∀ n, sumTo n (fun t => if t < m then c else 0) = c * (min n m : Nat) := by
  intro n
  induction n with
  | zero => simp [sumTo]
  | succ n ih =>
    rw [sumTo_succ, ih]
    by_cases h : n < m
    · rw [if_pos h, show min (n + 1) m = min n m + 1 from by omega]; simp [Int.mul_add]
    · rw [if_neg h, show min (n + 1) m = min n m from by omega]; omega
theorem flatS_check {b N M : Nat} (hb1 : 1 ≤ b) (hb : b ≤ 15) (hN : N = 2 ^ b) (hM : N ≤ M) : checkS (flatS b N M N) = 0 := by
  have hl : (flatS b N M N).length = M := flatS_len hM
  have hk : kraft (flatS b N M N) = 32768 := by
    unfold kraft
    have e : sumTo (flatS b N M N).length (fun t => wgt (ln (flatS b N M N) t)) = sumTo M (fun t => if t < N then (2 : Int) ^ (15 - b) else 0) := by
      rw [hl]
      refine sumTo_congr fun t _ => ?_
      rw [flatS_ln hM]
      by_cases h : t < N
      · rw [if_pos h, if_pos h]; unfold wgt; rw [if_pos (by omega), Int.toNat_natCast]
      · rw [if_neg h, if_neg h]; rfl
    rw [e, sumTo_first, Nat.min_eq_right hM, hN]
    have : (2 : Nat) ^ (15 - b) * 2 ^ b = 32768 := by rw [← Nat.pow_add, show 15 - b + b = 15 from by omega]
    have h2 : (((2 : Nat) ^ (15 - b) * 2 ^ b : Nat) : Int) = ((32768 : Nat) : Int) := by rw [this]
    rw [Int.natCast_mul, Int.natCast_pow] at h2
    exact h2
  unfold checkS
  rw [if_neg, if_pos (.inr hk)]
  intro hc
  obtain ⟨x, hx, hbx⟩ := List.any_eq_true.1 hc
  obtain ⟨t, ht, rfl⟩ := List.mem_iff_getElem.1 hx
  rw [← ln_get ht, flatS_ln hM] at hbx
  unfold badLen at hbx
  by_cases h : t < N
  · rw [if_pos h, Bool.or_eq_true, decide_eq_true_eq, decide_eq_true_eq] at hbx; omega
  · rw [if_neg h, Bool.or_eq_true, decide_eq_true_eq, decide_eq_true_eq] at hbx; omega
/-- Two symbols and more: what is read again is what was written. -/
theorem want_same {ls os : List Int} (hos : InOrder ls os) {s t : Nat} (hst : s ≠ t) (hs : s < ls.length) (ht : t < ls.length) (h1 : 0 < ln ls s) (h2 : 0 < ln ls t) : wantS ls os = ls := by
  have m1 := hos.has hs h1
  have m2 := hos.has ht h2
  match os with
  | [] => simp at m1
  | [a] => simp at m1 m2; omega
  | _ :: _ :: _ => rfl
theorem flatS_nn (b N M k : Nat) : NoNeg (flatS b N M k) := by
  intro x hx
  unfold flatS at hx
  rcases List.mem_append.1 hx with h | h
  · rw [List.mem_replicate] at h; omega
  · rw [List.mem_replicate] at h; omega
/-- The bits that were written stand in the bytes. -/
theorem at_pack {a l r : List Int} (h : IsBits (a ++ l ++ r)) : At (packB (a ++ l ++ r)) a.length l := by
  refine ⟨?_, fun i hi => ?_⟩
  · rw [packB_length]; simp only [List.length_append]; omega
  · rw [bitAt_pack h]
    unfold bl
    rw [List.append_assoc, List.getElem?_append_right (by omega), Nat.add_sub_cancel_left, List.getElem?_append_left hi]
theorem at_pack0 {l : List Int} (h : IsBits l) : At (packB l) 0 l := by
  have := at_pack (a := []) (l := l) (r := []) (by simpa using h)
  simpa using this
end Go.Proofs.Ytbljoihnjhllhaa

/- The law LensSimple. -/
namespace Go.Proofs.Ytbljoihnjhllhaa
open Go.RowKit
open Go.Proofs.YtbljoihnjhllhaaW.PrintWords
open Srt

/-- What a Read answers: the lengths, or none that may be. -/
def ReadPost (g k : Nat) (out : List Int) (ok : Bool) (w : World) (e : Ending) (w' : World) : Prop :=
  Mods [g] w w' ∧ (ok = true → ∃ G, e = .returned (.tuple #[.slice (some ⟨G, 0, none⟩) k k, .int .i64 0]) ∧ w.heap.size ≤ G ∧ w'.ownsRow w.heap.size 3 1 (.slice (some ⟨G, 0, none⟩) k k) k (nums .i64 out)) ∧ (ok = false → e = .returned (.tuple #[.slice none 0 0, .int .i64 3]))

set_option maxHeartbeats 2000000 in
theorem read_simple (two : Bool) (g : Nat) (A : Option Addr) (bs : List Int) (k : Nat) (a b : Int) (w : World) (h : Rdr w g A bs 0 false) (hA : ∀ ad, A = some ad → ad.block < w.heap.size ∧ ad.block ≠ g)
    (h1 : bitsVal bs 0 1 = 1) (ht : bitsVal bs (0 + 1) 1 = if two then 1 else 0) (hw : bitsVal bs (0 + 1 + 1) 1 = 1) (ha : bitsVal bs (0 + 1 + 1 + 1) 8 = a) (hb : two = true → bitsVal bs (0 + 1 + 1 + 1 + 8) 8 = b) (hl : 11 + (if two then 8 else 0) ≤ 8 * bs.length) (hbb : 0 ≤ b ∧ b < 256)
    (hk1 : 1 ≤ k) (hk : k ≤ 4096) (hck : (layS (zeros k) (twoS two a b)).2 = true → checkS (layS (zeros k) (twoS two a b)).1 = 0) :
    Calls Try.prog 15 #[.pointer (some ⟨g, 0, none⟩), .int .i64 k] w (ReadPost g k (layS (zeros k) (twoS two a b)).1 (layS (zeros k) (twoS two a b)).2 w) := by
  have hgl := h.lt
  have HR := Lib.hid h; have HA := Lib.hid hA; have H1 := Lib.hid h1; have HCK := Lib.hid hck
  have HSIM := Lib.hid (fun S G base W hS hG hGw hO => simple_any two S g G base A bs (0 + 1) k a b W hS ht hw ha hb (by omega) hbb hG hGw hO hk)
  have hll := Lib.hid (layS_length (twoS two a b) (zeros k))
  have hmk := print_make (P := Try.prog) 22 3 .i64 8 Try.underlying22 info_int (by decide) k (by omega)
  have hl8 : 1 ≤ bs.length := by omega
  clear h hA h1 ht hw ha hb hck hl
  generalize layS (zeros k) (twoS two a b) = res at *
  obtain ⟨out, ok⟩ := res
  go_enter Try.func15, Try.ntmps15
  go_wp2_with fail
  have hW1 : ((w.alloc (.cells #[.pointer (some ⟨g, 0, none⟩), .int .i64 0] 61)).alloc (.cells (madeCells #[.int .i64 0] k) 3)).heap[w.heap.size]? = some (.cells #[.pointer (some ⟨g, 0, none⟩), .int .i64 0] 61 (0, 0)) := by
    rw [Below.heap_alloc _ _ _ (by simp)]; exact blk_alloc _
  have hO1 := own_made (w.alloc (.cells #[.pointer (some ⟨g, 0, none⟩), .int .i64 0] 61)) w.heap.size 3 .i64 k (by simp) (by omega)
  have hM1 : Mods [] w ((w.alloc (.cells #[.pointer (some ⟨g, 0, none⟩), .int .i64 0] 61)).alloc (.cells (madeCells #[.int .i64 0] k) 3)) := ((Mods.refl _ _).alloc _).alloc _
  have hz1 : ((w.alloc (.cells #[.pointer (some ⟨g, 0, none⟩), .int .i64 0] 61)).alloc (.cells (madeCells #[.int .i64 0] k) 3)).heap.size = w.heap.size + 1 + 1 := by simp
  rw [World.size_alloc] at hO1
  generalize hw1 : (w.alloc (.cells #[.pointer (some ⟨g, 0, none⟩), .int .i64 0] 61)).alloc (.cells (madeCells #[.int .i64 0] k) 3) = w1 at *
  have HW1 := Lib.hid hw1; have HO1 := Lib.hid hO1; have HM1 := Lib.hid hM1; have HZ1 := Lib.hid hz1
  have HS1 := Lib.hid (show Src w1 w.heap.size g A bs 0 0 from ⟨hW1, by omega, fun ad h => ⟨by have := (HA.out ad h).1; omega, (HA.out ad h).2⟩, HR.out.mods hM1 (by simp) (by simp)⟩)
  clear hw1 hO1 hM1 hz1 hW1 hmk
  refine (num_src 1 w.heap.size g A bs 0 1 w1 H1 (by omega) (by omega) (by omega) HS1.out).mono ?_
  rintro e w2 ⟨rfl, hS2, hM2⟩
  have HO2 := Lib.hid (own_mods HO1.out hM2 (by simp; omega))
  have HS2 := Lib.hid hS2; have HM2 := Lib.hid hM2
  have hz2 := hM2.size
  rw [HZ1.out] at hz2
  clear hS2 hM2
  go_wp2_with fail
  refine (HSIM.out w.heap.size (w.heap.size + 1) w.heap.size w2 HS2.out ⟨by omega, by omega, fun ad h => by have := (HA.out ad h).1; omega⟩ (by omega) HO2.out).mono ?_
  rintro e w3 ⟨rfl, hO3, hS3, hM3⟩
  have HMM : Hid (Mods [g] w w3) := Lib.hid (Mods.trans_new ((HM1.out.mono (by simp)).trans_new HM2.out (by simp)) hM3 (by simp))
  have HO3 := Lib.hid hO3; have HS3 := Lib.hid hS3
  clear hM3 hO3 hS3
  cases ok
  · have hd1 : w3.cell? ⟨w.heap.size, 1, none⟩ = some (.int .i64 3) := by rw [cell_blk HS3.out]; rfl
    have hf1 := free_blk HS3.out 1
    go_wp2_with fail
    go_quiet (fail)
    go_wp2_with fail
    go_ret2
    exact ⟨HMM.out.drewN _, fun h => (by cases h), fun _ => rfl⟩
  · have hd1 : w3.cell? ⟨w.heap.size, 1, none⟩ = some (.int .i64 0) := by rw [cell_blk HS3.out]; rfl
    have hf1 := free_blk HS3.out 1
    obtain ⟨A3, c3, he3, hr3⟩ := own_reads HO3.out
    cases he3
    have HR3 := Lib.hid hr3
    have hcz := Lib.hid (HCK.out rfl)
    clear hr3
    go_wp2_with fail
    refine (check_any _ k k out w3 HR3.out (by omega)).mono ?_
    rintro e w' ⟨rfl, rfl⟩
    rw [hcz.out]
    go_wp2_with fail
    go_ret2
    exact ⟨HMM.out, fun _ => ⟨w.heap.size + 1, rfl, by omega, HO3.out⟩, fun h => (by cases h)⟩
/-- The bits that tell one symbol, or two. -/
def handL (two : Bool) (a b : Int) : List Int := bitsOf 1 1 ++ bitsOf (if two then 1 else 0) 1 ++ bitsOf 1 1 ++ bitsOf a 8 ++ (if two then bitsOf b 8 else [])
theorem handL_length (two : Bool) (a b : Int) : (handL two a b).length = 11 + (if two then 8 else 0) := by
  unfold handL; cases two <;> simp [bitsOf_length]
theorem handL_bits (two : Bool) (a b : Int) : IsBits (handL two a b) := by
  unfold handL
  refine IsBits.app ((((bitsOf_bits _ _).app (bitsOf_bits _ _)).app (bitsOf_bits _ _)).app (bitsOf_bits _ _)) ?_
  split
  · exact bitsOf_bits _ _
  · intro x hx; simp at hx
structure HandB (two : Bool) (a b : Int) (bs : List Int) : Prop where
  one : bitsVal bs 0 1 = 1
  two_ : bitsVal bs (0 + 1) 1 = if two then 1 else 0
  wide : bitsVal bs (0 + 1 + 1) 1 = 1
  fst : bitsVal bs (0 + 1 + 1 + 1) 8 = a
  snd : two = true → bitsVal bs (0 + 1 + 1 + 1 + 8) 8 = b
  len : 11 + (if two then 8 else 0) ≤ 8 * bs.length
theorem handL_says (two : Bool) (a b : Int) (ha : 0 ≤ a ∧ a < 256) (hb : 0 ≤ b ∧ b < 256) : HandB two a b (packB (handL two a b)) := by
  have hB := handL_bits two a b
  have hlen := handL_length two a b
  refine ⟨?_, ?_, ?_, ?_, ?_, by rw [packB_length, hlen]; omega⟩
  · rw [bitsVal_pack hB]
    exact lv_it [] (bitsOf (if two then 1 else 0) 1 ++ bitsOf 1 1 ++ bitsOf a 8 ++ (if two then bitsOf b 8 else [])) 1 1 (by decide) (by decide) |> fun h => by
      have e : handL two a b = [] ++ bitsOf 1 1 ++ (bitsOf (if two then 1 else 0) 1 ++ bitsOf 1 1 ++ bitsOf a 8 ++ (if two then bitsOf b 8 else [])) := by simp [handL]
      rw [e]; exact h
  · rw [bitsVal_pack hB]
    have h := lv_it (bitsOf 1 1) (bitsOf 1 1 ++ bitsOf a 8 ++ (if two then bitsOf b 8 else [])) (if two then 1 else 0) 1 (by split <;> decide) (by split <;> decide)
    have e : handL two a b = bitsOf 1 1 ++ bitsOf (if two then 1 else 0) 1 ++ (bitsOf 1 1 ++ bitsOf a 8 ++ (if two then bitsOf b 8 else [])) := by simp [handL]
    rw [e]; exact h
  · rw [bitsVal_pack hB]
    have h := lv_it (bitsOf 1 1 ++ bitsOf (if two then 1 else 0) 1) (bitsOf a 8 ++ (if two then bitsOf b 8 else [])) 1 1 (by decide) (by decide)
    have e : handL two a b = bitsOf 1 1 ++ bitsOf (if two then 1 else 0) 1 ++ bitsOf 1 1 ++ (bitsOf a 8 ++ (if two then bitsOf b 8 else [])) := by simp [handL]
    rw [e]
    simpa [bitsOf_length] using h
  · rw [bitsVal_pack hB]
    have h := lv_it (bitsOf 1 1 ++ bitsOf (if two then 1 else 0) 1 ++ bitsOf 1 1) (if two then bitsOf b 8 else []) a 8 ha.1 (by omega)
    have e : handL two a b = bitsOf 1 1 ++ bitsOf (if two then 1 else 0) 1 ++ bitsOf 1 1 ++ bitsOf a 8 ++ (if two then bitsOf b 8 else []) := rfl
    rw [e]
    simpa [bitsOf_length] using h
  · intro ht
    subst ht
    rw [bitsVal_pack hB]
    have h := lv_it (bitsOf 1 1 ++ bitsOf (if true then 1 else 0) 1 ++ bitsOf 1 1 ++ bitsOf a 8) [] b 8 hb.1 (by omega)
    have e : handL true a b = bitsOf 1 1 ++ bitsOf (if true then 1 else 0) 1 ++ bitsOf 1 1 ++ bitsOf a 8 ++ bitsOf b 8 ++ [] := by simp [handL]
    rw [e]
    simpa [bitsOf_length] using h

set_option maxHeartbeats 2000000 in
theorem answers07 (w : World) : Calls Try.prog 5 #[] w fun e w' => e = .returned (.bool true) ∧ Below w.heap.size w w' := by
  go_enter Try.func5, Try.ntmps5
  go_wp2_with fail
  refine (w_new w).mono ?_
  rintro e w1 ⟨rfl, hW1, hB1⟩
  have HW1 := Lib.hid hW1; have HB1 := Lib.hid hB1
  have hz1 := hB1.size
  clear hW1 hB1
  go_wp2_with fail
  have hR2 := reads_lit w1 3 .i64 [0, 0, 0, 0, 0, 7] (by decide)
  have hW2 := HW1.out.mods (S := []) ((Mods.refl [] w1).alloc (.cells #[.int .i64 0, .int .i64 0, .int .i64 0, .int .i64 0, .int .i64 0, .int .i64 7] 3)) (by simp) (by simp)
  refine (write07 w.heap.size w1.heap.size (.slice none 0 0) _ hW2 hR2).mono ?_
  rintro e w3 ⟨rfl, v3, hW3, hC3⟩
  have HW3 := Lib.hid (show Wtr w3 w.heap.size v3 (handL false 5 0) from by simpa [handL] using hW3)
  have hM3 : Mods [w.heap.size] w1 w3 := Mods.trans (((Mods.refl _ _).alloc _)) (hC3.mods.mono (by simp [rows, Value.ownBlock]))
  have HB3 := Lib.hid (Below.then_mods HB1.out hz1 hM3 (by simp))
  clear hR2 hW2 hW3 hC3 hM3
  have hz3 := HB3.out.size
  go_wp2_with fail
  refine (w_bytes w.heap.size v3 _ w3 HW3.out).mono ?_
  rintro e w4 ⟨v4, rfl, hown4, hB4⟩
  obtain ⟨A4, c4, rfl, hr4⟩ := own_reads hown4
  have HR4 := Lib.hid hr4
  have HB4 := Lib.hid (below_then HB3.out hz3 hB4)
  have hz4 := HB4.out.size
  clear hown4 hB4 hr4
  have hll := handL_length false 5 0
  have HSAY := Lib.hid (handL_says false 5 0 (by decide) (by decide))
  have HBB := Lib.hid (packB_bytes (handL_bits false 5 0))
  have hlay : layS (zeros 6) (twoS false 5 0) = ([0, 0, 0, 0, 0, 1], true) := by decide
  have HLAY := Lib.hid hlay
  generalize handL false 5 0 = L at *
  have HLL := Lib.hid hll
  have hlb : (L.length + 7) / 8 ≤ 10 := by simp at hll; omega
  clear hll hlay
  generalize (L.length + 7) / 8 = nb at *
  go_wp2_with fail
  refine (newReader A4 nb c4 (packB L) w4 HR4.out HBB.out (by omega)).mono ?_
  rintro e w5 ⟨g, A', rfl, hg, hA', hR, hB⟩
  have hAlt : ∀ ad, A' = some ad → ad.block < w5.heap.size ∧ ad.block ≠ g := fun ad h => ⟨by
    obtain ⟨d, e2, hc⟩ := hR.2.2.2.2.1.2.2 (by have := HSAY.out.len; simp at this; omega)
    rw [h] at e2
    cases e2
    exact World.block_lt_of_cell? w5 _ (hc 0 (by have := HSAY.out.len; simp at this; omega)), hR.2.2.2.2.2 ad h⟩
  have hg1 : w.heap.size ≤ g := by omega
  have HB5 := Lib.hid (below_then HB4.out hz4 hB); have HR5 := Lib.hid hR; have HALT := Lib.hid hAlt
  clear hA' hR hB hAlt hg
  go_wp2_with fail
  refine (read_simple false g A' (packB L) 6 5 0 w5 HR5.out HALT.out HSAY.out.one HSAY.out.two_ HSAY.out.wide HSAY.out.fst HSAY.out.snd HSAY.out.len (by decide) (by decide) (by decide) (fun _ => by rw [HLAY.out]; decide)).mono ?_
  rintro e w6 ⟨hM6, hyes, _⟩
  rw [HLAY.out] at hyes
  obtain ⟨G, rfl, hG, hown⟩ := hyes rfl
  obtain ⟨hc, hf⟩ := own_at hown 5 (by omega) (by omega)
  have hc5 : w6.cell? ⟨G, 5, none⟩ = some (.int .i64 1) := by simpa [rd] using hc
  have HB6 := Lib.hid (Below.then_mods HB5.out HB5.out.size hM6 (by simpa using hg1))
  clear hM6 hown hc hf
  go_wp2_with fail
  go_ret
  exact ⟨rfl, HB6.out⟩
end Go.Proofs.Ytbljoihnjhllhaa

/- The reference's Ints, of numbers that are the same. -/
namespace Go.Proofs.Ytbljoihnjhllhaa
open Go.RowKit
open Go.Proofs.YtbljoihnjhllhaaW.PrintWords

set_option maxHeartbeats 1000000 in
theorem ints_same (A B : Option Addr) (n c d : Nat) (xs : List Int) (w : World) (HR : ReadsInt w .i64 A n xs) (HS : ReadsInt w .i64 B n xs) :
    Calls Try.prog 14 #[.slice A n c, .slice B n d] w fun e w' => e = .returned (.bool true) ∧ Below w.heap.size w w' := by
  have HRR := Lib.hid HR; have HSS := Lib.hid HS
  have hmx := HR.2.1
  clear HR HS
  go_enter Try.func14, Try.ntmps14
  go_wp2_with fail
  go_loopw [5] (fun i wr => ∃ k : Nat, k ≤ n ∧ i = .int .i64 k ∧ Hid (∃ q, wr = w.drewN q)) (fun i _ => n - (intOf i).toNat)
  case atStart => exact ⟨0, Nat.zero_le _, rfl, 0, rfl⟩
  case round =>
    obtain ⟨k, hk, rfl, HQ⟩ := hrel
    by_cases hlt : k < n
    · obtain ⟨ad, hA, hcell⟩ := ReadsInt.at_ HRR.out (k : Int) (by omega) (by omega)
      obtain ⟨bd, hB, hcelb⟩ := ReadsInt.at_ HSS.out (k : Int) (by omega) (by omega)
      rw [Int.toNat_natCast] at hcell hcelb
      subst hA hB
      have hc1 : wr.cell? (ad.add k) = some (.int .i64 (rd xs k)) := by obtain ⟨q, e⟩ := HQ.out; rw [e]; simpa using hcell
      have hc2 : wr.cell? (bd.add k) = some (.int .i64 (rd xs k)) := by obtain ⟨q, e⟩ := HQ.out; rw [e]; simpa using hcelb
      clear hcell hcelb
      generalize rd xs (k : Int) = x at *
      go_wp2_with fail
      go_quiet (fail)
      go_wp2_with fail
      go_roundw
      case rel => exact ⟨k + 1, by omega, by go_num, by obtain ⟨q, e⟩ := HQ.out; exact ⟨q + nq, by rw [e, World.drewN_drewN]⟩⟩
      case measure => simp [intOf]; omega
    · have hkk : k = n := by omega
      subst hkk
      go_wp2_with fail
      go_ret
      refine ⟨rfl, ?_⟩
      obtain ⟨q, e⟩ := HQ.out
      rw [e]; exact ⟨rfl, rfl, rfl, Nat.le_refl _, fun _ _ => rfl⟩
end Go.Proofs.Ytbljoihnjhllhaa

/- The law LensFlat: as many lengths as two to some number, all of that, are written, and read again, in more than five bits. -/
namespace Go.Proofs.Ytbljoihnjhllhaa
open Go.RowKit
open Go.Proofs.YtbljoihnjhllhaaW.PrintWords
open Srt Sz

set_option maxRecDepth 100000 in
set_option maxHeartbeats 4000000 in
theorem law_LensFlat (a m : Int) (w : World) (ha : 0 ≤ a ∧ a ≤ 255) (hm : 0 ≤ m ∧ m ≤ 255) :
    Calls Try.prog 4 #[.int .u8 a, .int .u8 m] w fun e w' => e = .returned (.bool true) ∧ Below w.heap.size w w' := by
  obtain ⟨q, hq⟩ : ∃ q : Nat, a % 8 = q := Int.eq_ofNat_of_zero_le (by omega)
  have hq1 : q ≤ 7 := by omega
  obtain ⟨e, he⟩ := Int.eq_ofNat_of_zero_le hm.1
  subst he
  obtain ⟨N, hN⟩ : ∃ N : Nat, N = 2 ^ (q + 2) := ⟨_, rfl⟩
  have hN1 : 4 ≤ N := by
    have : (2 : Nat) ^ 2 ≤ 2 ^ (q + 2) := Nat.pow_le_pow_right (by decide) (by omega)
    omega
  have hN2 : N ≤ 512 := by
    have : (2 : Nat) ^ (q + 2) ≤ 2 ^ 9 := Nat.pow_le_pow_right (by decide) (by omega)
    omega
  have hsh : wrap64 (2 ^ (q + 2)) = (N : Int) := by
    rw [show (2 : Int) ^ (q + 2) = (N : Int) from by rw [hN]; norm_cast]
    exact w64 _ (by omega) (by omega)
  have HCK := Lib.hid (flatS_check (b := q + 2) (N := N) (M := N + e) (by omega) (by omega) hN (by omega))
  have hmk : ∀ W, (Instr.makeSlice 22 (.int .i64 ((N : Int) + (e : Int))) (.int .i64 ((N : Int) + (e : Int)))).run Try.prog W = .ok (.slice (some ⟨W.heap.size, 0, none⟩) (N + e) (N + e)) (W.alloc (.cells (madeCells #[.int .i64 0] (N + e)) 3)) := fun W => by
    have h := print_make (P := Try.prog) 22 3 .i64 8 Try.underlying22 info_int (by decide) (N + e) (by omega) W
    simpa using h
  have HN := Lib.hid hN
  have HSH := Lib.hid hsh
  have ht2 : ((q : Int) + 2).toNat = q + 2 := by omega
  clear hN
  go_enter Try.func4, Try.ntmps4
  go_wp2_with fail
  rw [made_blk]
  have HK := Lib.hid (show BlkI (w.alloc (.cells ((List.replicate (N + e) (0 : Int)).map (Value.int .i64)).toArray 3)) w.heap.size (flatS (q + 2) N (N + e) 0) from alloc_new _ _ _)
  have HB := Lib.hid ((Below.refl w.heap.size w).alloc (Nat.le_refl _) (.cells ((List.replicate (N + e) (0 : Int)).map (Value.int .i64)).toArray 3))
  have hz1 : (w.alloc (.cells ((List.replicate (N + e) (0 : Int)).map (Value.int .i64)).toArray 3)).heap.size = w.heap.size + 1 := by rw [World.size_alloc]
  generalize w.alloc (.cells ((List.replicate (N + e) (0 : Int)).map (Value.int .i64)).toArray 3) = w1 at *
  clear hmk hq
  have HZ1 := Lib.hid hz1
  clear hz1
  go_loopw [7] (fun kv wr => ∃ k : Nat, k ≤ N ∧ kv = .int .i64 k ∧ Hid (BlkI wr w.heap.size (flatS (q + 2) N (N + e) k)) ∧ Hid (Mods [w.heap.size] w1 wr)) (fun kv _ => N - (intOf kv).toNat)
  case atStart => exact ⟨0, by omega, rfl, HK, Lib.hid (Mods.refl _ _)⟩
  case round =>
    clear HK
    obtain ⟨k, hk, rfl, HK, HM⟩ := hrel
    by_cases hlt : k < N
    · have d1 : decide ((k : Int) < (N : Int)) = true := decide_eq_true (by omega)
      have d2 : decide (k < N) = true := decide_eq_true (by omega)
      have d3 : (k : Int) < (N : Int) + (e : Int) := by omega
      have hf := free_blk HK.out k
      obtain ⟨x, hcx⟩ : ∃ x, wr.cell? ⟨w.heap.size, k, none⟩ = some (.int .i64 x) := ⟨_, HK.out.at k (by rw [flatS_len (by omega)]; omega)⟩
      have HSET := Lib.hid (show (flatS (q + 2) N (N + e) k).set k ((q : Int) + 2) = flatS (q + 2) N (N + e) (k + 1) from by
        have h := flatS_set (b := q + 2) (N := N) (M := N + e) (k := k) (by omega)
        simpa using h)
      go_wp2_with fail
      go_roundw
      case rel =>
        refine ⟨k + 1, by omega, by go_num, Lib.hid ?_, Lib.hid (HM.out.setCell (by simp) _)⟩
        rw [← HSET.out]; exact HK.out.set k _
      case measure => simp [intOf]; omega
    · have d1 : decide ((k : Int) < (N : Int)) = false := decide_eq_false (by omega)
      have d2 : decide (k < N) = false := decide_eq_false (by omega)
      obtain rfl : k = N := by omega
      have hM1 : Mods [] w wr := (Mods.of_below HB.out []).trans_new HM.out (by simp)
      have hzr := HM.out.size
      have hz1 := HZ1.out
      have HBr := Lib.hid hM1.below
      have HR := Lib.hid (show ReadsInt wr .i64 (some ⟨w.heap.size, 0, none⟩) (k + e) (flatS (q + 2) k (k + e) k) from by
        have h := HK.out.reads (by rw [flatS_len (by omega)]; omega)
        rwa [flatS_len (by omega)] at h)
      have HLF := Lib.hid (show (flatS (q + 2) k (k + e) k).length = k + e from flatS_len (by omega))
      have HNNF := Lib.hid (flatS_nn (q + 2) k (k + e) k)
      have HP0 := Lib.hid (show 0 < ln (flatS (q + 2) k (k + e) k) 0 from by rw [flatS_ln (by omega), if_pos (by omega)]; omega)
      have HP1 := Lib.hid (show 0 < ln (flatS (q + 2) k (k + e) k) 1 from by rw [flatS_ln (by omega), if_pos (by omega)]; omega)
      have HMX := Lib.hid (show ∀ x ∈ flatS (q + 2) k (k + e) k, x ≤ 9223372036854775807 from fun x hx => by have := lens_bounds HCK.out x hx; omega)
      clear HK HM hM1
      generalize flatS (q + 2) k (k + e) k = ls at *
      obtain ⟨M, hM⟩ : ∃ M, k + e = M := ⟨_, rfl⟩
      have hMc : (k : Int) + (e : Int) = (M : Int) := by omega
      have hM0 : 4 ≤ M := by omega
      have hM2 : M ≤ 4096 := by omega
      rw [hM] at HR HLF ⊢
      have hsh' := HSH.out
      have d1' : decide ((k : Int) < (k : Int)) = false := decide_eq_false (by omega)
      clear hM
      go_wp2_with fail
      refine (w_new wr).mono ?_
      rintro en w2 ⟨rfl, hW2, hB2⟩
      have HR2 := Lib.hid (ReadsInt.below HR.out hB2)
      have HW2 := Lib.hid hW2; have HB2 := Lib.hid (below_then HBr.out HBr.out.size hB2)
      have hgw : w.heap.size + 1 ≤ wr.heap.size := by omega
      clear hB2 hW2
      go_wp2_with fail
      refine (write_good wr.heap.size (.slice none 0 0) [] (some ⟨w.heap.size, 0, none⟩) M M ls w2 HW2.out HR2.out (by omega) hM2 HNNF.out (.inr HCK.out) (by simp) HMX.out).mono ?_
      rintro en w3 ⟨rfl, os, v3, hos, hW3, hC3⟩
      have HOS := Lib.hid hos
      have HW3 := Lib.hid (show Wtr w3 wr.heap.size v3 (wrB ls os) from hW3)
      have HM3 := Lib.hid (show Mods [wr.heap.size] w2 w3 from by have h := hC3.mods; simpa [rows, Value.ownBlock] using h)
      have HB3 := Lib.hid (show Below w.heap.size w w3 from Below.then_mods HB2.out HB2.out.size HM3.out (by simp; omega))
      have HR3 := Lib.hid (ReadsInt.mods HR2.out HM3.out (fun ad h => by cases h; simp; omega))
      have hlong := wrB_long ls os
      have hws := HW3.out.1
      have HIB := Lib.hid HW3.out.2.1
      clear hos hW3 hC3
      have HAT := Lib.hid (at_pack0 HIB.out)
      have hrd := wrB_read (bs := packB (wrB ls os)) (p := 0) HOS.out HNNF.out (by rw [HLF.out]; omega) (by rw [HLF.out]; omega) (.inr HCK.out) HAT.out
      rw [want_same HOS.out (show (0 : Nat) ≠ 1 by decide) (by rw [HLF.out]; omega) (by rw [HLF.out]; omega) HP0.out HP1.out, HLF.out] at hrd
      have HRD := Lib.hid hrd.1
      clear hrd
      generalize wrB ls os = L at *
      go_wp2_with fail
      refine (w_bytes wr.heap.size v3 L w3 HW3.out).mono ?_
      rintro en w4 ⟨v4, rfl, hO4, hB4⟩
      obtain ⟨A4, c4, rfl, hr4⟩ := own_reads hO4
      have HR4 := Lib.hid hr4
      have hbytes := packB_bytes HIB.out
      have HBY := Lib.hid hbytes
      have HB4 := Lib.hid (below_then HB3.out HB3.out.size hB4)
      have HL4 := Lib.hid (ReadsInt.below HR3.out hB4)
      have HW4 := Lib.hid (HW3.out.mods (Mods.of_below hB4 []) (by simp) (by simp))
      have hz4 := hB4.size
      clear hO4 hr4 hbytes hB4
      go_wp2_with fail
      have hl8 : (L.length + 7) / 8 ≤ 140737488351232 := by omega
      refine (newReader2 A4 _ c4 (packB L) w4 HR4.out HBY.out hl8).mono ?_
      rintro en w5 ⟨g5, A5, rfl, hg5, hA5, hA5b, hR5, hB5⟩
      have HR5 := Lib.hid hR5; have HA5 := Lib.hid hA5b
      have HB5 := Lib.hid (below_then HB4.out HB4.out.size hB5)
      have HL5 := Lib.hid (ReadsInt.below HL4.out hB5)
      have HW5 := Lib.hid (HW4.out.mods (Mods.of_below hB5 []) (by simp) (by simp))
      have hgw5 : wr.heap.size < w4.heap.size := blk_lt HW4.out.2.2.1
      have hg5w : w.heap.size + 1 ≤ g5 := by omega
      have hv5 : ∀ b, v3.ownBlock = some b → b < w4.heap.size := fun b hb => own_lt HW4.out.2.2.2 b hb
      have HV5 := Lib.hid hv5
      clear hA5 hA5b hR5 hB5 hv5
      go_wp2_with fail
      refine (lens_read_any g5 A5 (packB L) 0 M w5 HR5.out HA5.out (by omega) hM2).mono ?_
      rintro en w6 ⟨hM6, hcase⟩
      rcases hcase with ⟨G6, out, p6, rfl, hG6, hO6, _, _, _, hF6⟩ | ⟨e6, q6, o6, rfl, _, _, hF6⟩
      · rw [HRD.out] at hF6
        have hout : ls = out := by injection hF6
        subst hout
        have hr6 : ReadsInt w6 .i64 (some ⟨G6, 0, none⟩) M ls := by
          obtain ⟨A', c', he', hr⟩ := own_reads hO6
          cases he'
          exact hr
        have HR6 := Lib.hid hr6
        have HL6 := Lib.hid (ReadsInt.mods HL5.out hM6 (fun ad h => by cases h; simp; omega))
        have HW6 := Lib.hid (HW5.out.mods hM6 (by simp; omega) (fun b hb => by have := HV5.out b hb; simp; omega))
        have HB6 := Lib.hid (Below.then_mods HB5.out HB5.out.size hM6 (by simp; omega))
        clear hM6 hO6 hF6 hr6
        go_wp2_with fail
        refine (answers07 w6).mono ?_
        rintro en w7 ⟨rfl, hB7⟩
        have HR7 := Lib.hid (ReadsInt.below HR6.out hB7); have HL7 := Lib.hid (ReadsInt.below HL6.out hB7)
        have HW7 := Lib.hid (HW6.out.mods (Mods.of_below hB7 []) (by simp) (by simp))
        have HB7 := Lib.hid (below_then HB6.out HB6.out.size hB7)
        clear hB7
        go_wp2_with fail
        refine (ints_same (some ⟨G6, 0, none⟩) (some ⟨w.heap.size, 0, none⟩) M M M ls w7 HR7.out HL7.out).mono ?_
        rintro en w8 ⟨rfl, hB8⟩
        have HW8 := Lib.hid (HW7.out.mods (Mods.of_below hB8 []) (by simp) (by simp))
        have HB8 := Lib.hid (below_then HB7.out HB7.out.size hB8)
        clear hB8
        go_wp2_with fail
        refine (w_len wr.heap.size v3 L w8 HW8.out).mono ?_
        rintro en w9 ⟨rfl, rfl⟩
        have d9 : decide ((5 : Int) < (L.length : Int)) = true := decide_eq_true (by omega)
        go_wp2_with fail
        go_ret
        exact ⟨rfl, HB8.out⟩
      · rw [HRD.out] at hF6; cases hF6
end Go.Proofs.Ytbljoihnjhllhaa
