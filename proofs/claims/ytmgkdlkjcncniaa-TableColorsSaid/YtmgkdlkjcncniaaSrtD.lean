/- The library's choice of a pivot at 32-bit numbers: the whole. -/
import Derived.Test.YtmgkdlkjcncniaaSrtC
namespace Go.Proofs.Ytmgkdlkjcncniaa
open Go.RowKit
open Go.Proofs.YtmgkdlkjcncniaaW.PrintWords

def hintI : Sort.Hint → Int
  | .unknown => 0
  | .increasing => 1
  | .decreasing => 2
def cpEnd (r : Nat × Nat) : Nat × Sort.Hint := (r.1, if r.2 = 0 then .increasing else if r.2 = 12 then .decreasing else .unknown)
theorem cp_all (d : Array Int) (a b : Nat) : Sort.choosePivot Sort.ltInt d a b = cpEnd (if b - a ≥ 8 then (if b - a ≥ 50 then
      Sort.median Sort.ltInt d (Sort.medianAdjacent Sort.ltInt d (a + (b - a) / 4 * 1) 0).1
        (Sort.medianAdjacent Sort.ltInt d (a + (b - a) / 4 * 2) (Sort.medianAdjacent Sort.ltInt d (a + (b - a) / 4 * 1) 0).2).1
        (Sort.medianAdjacent Sort.ltInt d (a + (b - a) / 4 * 3) (Sort.medianAdjacent Sort.ltInt d (a + (b - a) / 4 * 2) (Sort.medianAdjacent Sort.ltInt d (a + (b - a) / 4 * 1) 0).2).2).1
        (Sort.medianAdjacent Sort.ltInt d (a + (b - a) / 4 * 3) (Sort.medianAdjacent Sort.ltInt d (a + (b - a) / 4 * 2) (Sort.medianAdjacent Sort.ltInt d (a + (b - a) / 4 * 1) 0).2).2).2
      else Sort.median Sort.ltInt d (a + (b - a) / 4 * 1) (a + (b - a) / 4 * 2) (a + (b - a) / 4 * 3) 0) else (a + (b - a) / 4 * 2, 0)) := rfl
theorem cp_few (d : Array Int) (a l : Nat) (h : l < 8) : Sort.choosePivot Sort.ltInt d a (a + l) = cpEnd (a + l / 4 * 2, 0) := by
  rw [cp_all, Nat.add_sub_cancel_left, if_neg (by omega)]
theorem cp_some (d : Array Int) (a l : Nat) (h : 8 ≤ l) (h' : l < 50) : Sort.choosePivot Sort.ltInt d a (a + l) = cpEnd (Sort.median Sort.ltInt d (a + l / 4 * 1) (a + l / 4 * 2) (a + l / 4 * 3) 0) := by
  rw [cp_all, Nat.add_sub_cancel_left, if_pos (by omega), if_neg (by omega)]
theorem cp_many (d : Array Int) (a l : Nat) (h : 50 ≤ l) : ∃ A B C, Sort.medianAdjacent Sort.ltInt d (a + l / 4 * 1) 0 = A ∧ Sort.medianAdjacent Sort.ltInt d (a + l / 4 * 2) A.2 = B ∧ Sort.medianAdjacent Sort.ltInt d (a + l / 4 * 3) B.2 = C ∧
    Sort.choosePivot Sort.ltInt d a (a + l) = cpEnd (Sort.median Sort.ltInt d A.1 B.1 C.1 C.2) := by
  refine ⟨Sort.medianAdjacent Sort.ltInt d (a + l / 4 * 1) 0, _, _, rfl, rfl, rfl, ?_⟩
  rw [cp_all, Nat.add_sub_cancel_left, if_pos (by omega), if_pos h]
theorem swap_new (w : World) (T : TypeId) : SwapBox (w.alloc (.cells #[.int .i64 0] T)) w.heap.size 0 := ⟨T, blk_alloc _⟩
theorem cpEnd_inc (x : Nat) : cpEnd (x, 0) = (x, .increasing) := rfl
theorem cpEnd_dec (x : Nat) : cpEnd (x, 12) = (x, .decreasing) := rfl
theorem cpEnd_unk {x s : Nat} (h : s ≠ 0) (h' : s ≠ 12) : cpEnd (x, s) = (x, .unknown) := by unfold cpEnd; rw [if_neg h, if_neg h']

set_option maxHeartbeats 2000000 in
theorem choosePivotU (base g n cap a b : Nat) (d : Array Int) (w : World) (hn : n ≤ 1152921504606846975) (hab : a < b) (hb : b ≤ n) (H : RowU w base g n cap d) (hg : g < w.heap.size) :
    Calls Try.prog 45 #[.slice (some ⟨g, 0, none⟩) n cap, .int .i64 a, .int .i64 b] w
      fun e w' => e = .returned (.tuple #[.int .i64 (Sort.choosePivot Sort.ltInt d a b).1, .int .i64 (hintI (Sort.choosePivot Sort.ltInt d a b).2)]) ∧ Mods [] w w' := by
  have HH := Lib.hid H
  clear H
  obtain ⟨l, hl⟩ : ∃ l, b - a = l := ⟨_, rfl⟩
  have hbl : b = a + l := by omega
  have HBL := Lib.hid hbl
  have hl' : (b : Int) - (a : Int) = (l : Int) := by omega
  obtain ⟨q, hq⟩ : ∃ q, l / 4 = q := ⟨_, rfl⟩
  have hq' : (l : Int) / 4 = (q : Int) := by omega
  have hq4 : 4 * q ≤ l := by omega
  have hql : l < 4 * q + 4 := by omega
  obtain ⟨i, hi⟩ : ∃ i, a + q = i := ⟨_, rfl⟩
  obtain ⟨j, hj⟩ : ∃ j, a + q * 2 = j := ⟨_, rfl⟩
  obtain ⟨k, hk⟩ : ∃ k, a + q * 3 = k := ⟨_, rfl⟩
  have hi' : (a : Int) + (q : Int) = i := by omega
  have hj' : (a : Int) + (q : Int) * 2 = j := by omega
  have hk' : (a : Int) + (q : Int) * 3 = k := by omega
  have HQ := Lib.hid hq; have HI := Lib.hid (show a + q * 1 = i by omega); have HJ := Lib.hid hj; have HK := Lib.hid hk
  by_cases h8 : l < 8
  · have hd8 : decide ((8 : Int) ≤ (l : Int)) = false := by simp; omega
    have e := cp_few d a l h8
    rw [← HBL.out, HQ.out, HJ.out] at e
    rw [e]
    clear hbl hl hq hi hj hk e
    go_enter Try.func45, Try.ntmps45
    go_wp2
    refine bodyPost_ret (results_two rfl _ _ _) rfl ?_
    exact ⟨rfl, (Mods.refl [] w).alloc _⟩
  · have hd8 : decide ((8 : Int) ≤ (l : Int)) = true := by simp; omega
    have hsw := swap_new w 3
    have hrow := HH.out.mods ((Mods.refl [] w).alloc (.cells #[.int .i64 0] 3)) (by simp)
    have HSW := Lib.hid hsw; have HRO := Lib.hid hrow
    clear hsw hrow
    have hfin : i < n ∧ j < n ∧ k < n ∧ 1 ≤ i ∧ i + 1 < n ∧ 1 ≤ j ∧ j + 1 < n ∧ 1 ≤ k ∧ k + 1 < n := by omega
    obtain ⟨f1, f2, f3, f4, f5, f6, f7, f8, f9⟩ := hfin
    by_cases h50 : l < 50
    · have hd50 : decide ((50 : Int) ≤ (l : Int)) = false := by simp; omega
      have e := cp_some d a l (by omega) h50
      rw [← HBL.out, HQ.out, HI.out, HJ.out, HK.out] at e
      rw [e]
      have k1 := medianU base g n cap i j k w.heap.size 0 d (w.alloc (.cells #[.int .i64 0] 3)) hn (by omega) f1 f2 f3 (by omega) HRO.out HSW.out
      have hm := (median_lt (d := d) (s := 0) f1 f2 f3).2
      generalize Sort.median Sort.ltInt d i j k 0 = r at *
      have K1 := Lib.hid k1
      clear hbl hl hq hi hj hk e k1
      go_enter Try.func45, Try.ntmps45
      go_wp2_with fail
      refine K1.out.mono ?_
      rintro e w1 ⟨rfl, hs1, hm1⟩
      have hc1 := hs1.cell
      have HM := Lib.hid ((Mods.refl [] w).alloc (.cells #[.int .i64 0] 3) |>.trans_new hm1 (by simp))
      clear hs1 hm1
      obtain ⟨x, s⟩ := r
      dsimp only at hc1
      by_cases hs0 : s = 0
      · subst hs0
        go_wp2_with fail
        refine bodyPost_ret (results_two rfl _ _ _) rfl ?_
        rw [cpEnd_inc]
        exact ⟨rfl, HM.out⟩
      · by_cases hs12 : s = 12
        · subst hs12
          go_wp2_with fail
          refine bodyPost_ret (results_two rfl _ _ _) rfl ?_
          rw [cpEnd_dec]
          exact ⟨rfl, HM.out⟩
        · have hz0 : ((s : Int) == 0) = false := by simp; omega
          have hz1 : ((s : Int) == 12) = false := by simp; omega
          have hz2 : ¬ (s : Int) = 12 := by omega
          go_wp2_with fail
          refine bodyPost_ret (results_two rfl _ _ _) rfl ?_
          rw [cpEnd_unk hs0 hs12]
          exact ⟨rfl, HM.out⟩
    · have hd50 : decide ((50 : Int) ≤ (l : Int)) = true := by simp; omega
      obtain ⟨A, B, C, eA, eB, eC, e⟩ := cp_many d a l (by omega)
      rw [HQ.out, HI.out] at eA
      rw [HQ.out, HJ.out] at eB
      rw [HQ.out, HK.out] at eC
      rw [← HBL.out] at e
      rw [e]
      have bA := median_lt (d := d) (a := i - 1) (b := i) (c := i + 1) (s := 0) (n := n) (by omega) f1 f5
      rw [show Sort.median Sort.ltInt d (i - 1) i (i + 1) 0 = A from eA] at bA
      have bB := median_lt (d := d) (a := j - 1) (b := j) (c := j + 1) (s := A.2) (n := n) (by omega) f2 f7
      rw [show Sort.median Sort.ltInt d (j - 1) j (j + 1) A.2 = B from eB] at bB
      have bC := median_lt (d := d) (a := k - 1) (b := k) (c := k + 1) (s := B.2) (n := n) (by omega) f3 f9
      rw [show Sort.median Sort.ltInt d (k - 1) k (k + 1) B.2 = C from eC] at bC
      have kA := medianAdjU base g n cap i w.heap.size 0 d (w.alloc (.cells #[.int .i64 0] 3)) hn (by omega) f4 f5 (by omega) HRO.out HSW.out
      rw [eA] at kA
      have kB := fun w1 h1 h2 => medianAdjU base g n cap j w.heap.size A.2 d w1 hn (by omega) f6 f7 (by omega) h1 h2
      rw [eB] at kB
      have kC := fun w1 h1 h2 => medianAdjU base g n cap k w.heap.size B.2 d w1 hn (by omega) f8 f9 (by omega) h1 h2
      rw [eC] at kC
      have kD := fun w1 h1 h2 => medianU base g n cap A.1 B.1 C.1 w.heap.size C.2 d w1 hn (by omega) bA.1 bB.1 bC.1 (by omega) h1 h2
      generalize Sort.median Sort.ltInt d A.1 B.1 C.1 C.2 = r at *
      have KA := Lib.hid kA; have KB := Lib.hid kB; have KC := Lib.hid kC; have KD := Lib.hid kD
      clear hbl hl hq hi hj hk e kA kB kC kD eA eB eC bA bB bC
      go_enter Try.func45, Try.ntmps45
      go_wp2_with fail
      refine KA.out.mono ?_
      rintro e w1 ⟨rfl, hs1, hm1⟩
      have HS1 := Lib.hid hs1; have HM1 := Lib.hid hm1
      clear hs1 hm1
      go_wp2_with fail
      refine (KB.out w1 (HRO.out.mods HM1.out (by simp; omega)) HS1.out).mono ?_
      rintro e w2 ⟨rfl, hs2, hm2⟩
      have HS2 := Lib.hid hs2; have HM2 := Lib.hid (HM1.out.trans hm2)
      clear hs2 hm2
      go_wp2_with fail
      refine (KC.out w2 (HRO.out.mods HM2.out (by simp; omega)) HS2.out).mono ?_
      rintro e w3 ⟨rfl, hs3, hm3⟩
      have HS3 := Lib.hid hs3; have HM3 := Lib.hid (HM2.out.trans hm3)
      clear hs3 hm3
      go_wp2_with fail
      refine (KD.out w3 (HRO.out.mods HM3.out (by simp; omega)) HS3.out).mono ?_
      rintro e w1 ⟨rfl, hs4, hm4⟩
      have hc1 := hs4.cell
      have HM := Lib.hid ((Mods.refl [] w).alloc (.cells #[.int .i64 0] 3) |>.trans_new (HM3.out.trans hm4) (by simp))
      clear hs4 hm4
      obtain ⟨x, s⟩ := r
      dsimp only at hc1
      by_cases hs0 : s = 0
      · subst hs0
        go_wp2_with fail
        refine bodyPost_ret (results_two rfl _ _ _) rfl ?_
        rw [cpEnd_inc]
        exact ⟨rfl, HM.out⟩
      · by_cases hs12 : s = 12
        · subst hs12
          go_wp2_with fail
          refine bodyPost_ret (results_two rfl _ _ _) rfl ?_
          rw [cpEnd_dec]
          exact ⟨rfl, HM.out⟩
        · have hz0 : ((s : Int) == 0) = false := by simp; omega
          have hz1 : ((s : Int) == 12) = false := by simp; omega
          have hz2 : ¬ (s : Int) = 12 := by omega
          go_wp2_with fail
          refine bodyPost_ret (results_two rfl _ _ _) rfl ?_
          rw [cpEnd_unk hs0 hs12]
          exact ⟨rfl, HM.out⟩
end Go.Proofs.Ytmgkdlkjcncniaa
