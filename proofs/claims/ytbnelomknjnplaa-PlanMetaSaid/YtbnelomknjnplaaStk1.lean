/- How the library compares two lists of numbers; how two sets stand to each other. -/
import Derived.Test.YtbnelomknjnplaaTypes
import Derived.Test.YtbnelomknjnplaaStkP
namespace Go.Proofs.Ytbnelomknjnplaa
open Go.RowKit
open Go.Proofs.YtbnelomknjnplaaW.PrintWords
open Srt

theorem isNaN_int (x : Int) (w : World) : Calls Try.prog 39 #[.int .i64 x] w fun e w' => e = .returned (.bool false) ∧ w = w' := by
  go_enter Try.func39, Try.ntmps39
  go_wp2_with fail
  go_ret
  exact ⟨by simp, rfl⟩
def cmp2 (x y : Int) : Int := if x < y then -1 else if y < x then 1 else 0
theorem compare_int (x y : Int) (w : World) : Calls Try.prog 28 #[.int .i64 x, .int .i64 y] w fun e w' => e = .returned (.int .i64 (cmp2 x y)) ∧ w = w' := by
  unfold cmp2
  by_cases h1 : x < y
  · rw [if_pos h1]
    go_enter Try.func28, Try.ntmps28
    go_wp2_with fail
    refine (isNaN_int x w).mono ?_
    rintro e w' ⟨rfl, rfl⟩
    go_wp2_with fail
    refine (isNaN_int y w).mono ?_
    rintro e w' ⟨rfl, rfl⟩
    go_wp2_with fail
    go_ret
    exact ⟨rfl, rfl⟩
  · rw [if_neg h1]
    by_cases h2 : y < x
    · rw [if_pos h2]
      go_enter Try.func28, Try.ntmps28
      go_wp2_with fail
      refine (isNaN_int x w).mono ?_
      rintro e w' ⟨rfl, rfl⟩
      go_wp2_with fail
      refine (isNaN_int y w).mono ?_
      rintro e w' ⟨rfl, rfl⟩
      go_wp2_with fail
      go_ret
      exact ⟨rfl, rfl⟩
    · rw [if_neg h2]
      go_enter Try.func28, Try.ntmps28
      go_wp2_with fail
      refine (isNaN_int x w).mono ?_
      rintro e w' ⟨rfl, rfl⟩
      go_wp2_with fail
      refine (isNaN_int y w).mono ?_
      rintro e w' ⟨rfl, rfl⟩
      go_wp2_with fail
      go_ret
      exact ⟨rfl, rfl⟩

theorem lexC_step {xs ys : List Int} {k : Nat} (hx : k < xs.length) (hy : k < ys.length) : Stk.lexC (xs.drop k) (ys.drop k) = if cmp2 (xs.getD k 0) (ys.getD k 0) = 0 then Stk.lexC (xs.drop (k + 1)) (ys.drop (k + 1)) else cmp2 (xs.getD k 0) (ys.getD k 0) := by
  rw [List.drop_eq_getElem_cons hx, List.drop_eq_getElem_cons hy, List.getD_eq_getElem?_getD, List.getD_eq_getElem?_getD, List.getElem?_eq_getElem hx, List.getElem?_eq_getElem hy]
  simp only [Option.getD_some, Stk.lexC, cmp2]
  by_cases h1 : xs[k] < ys[k]
  · simp [h1]
  · by_cases h2 : ys[k] < xs[k]
    · simp [h1, h2]
    · simp [h1, h2]
set_option maxHeartbeats 1000000 in
theorem compareL (A B : Option Addr) (n c d : Nat) (xs ys : List Int) (w : World) (HR : ReadsInt w .i64 A n xs) (HS : ReadsInt w .i64 B n ys) :
    Calls Try.prog 16 #[.slice A n c, .slice B n d] w fun e w' => e = .returned (.int .i64 (Stk.lexC xs ys)) ∧ w = w' := by
  have HRR := Lib.hid HR; have HSS := Lib.hid HS
  have hmx := HR.2.1
  clear HR HS
  go_enter Try.func16, Try.ntmps16
  go_wp2_with fail
  go_loopw [5, 6, 7, 8, 11] (fun _ _ _ _ i wr => ∃ k : Nat, k ≤ n ∧ i = .int .i64 k ∧ wr = w ∧ Hid (Stk.lexC xs ys = Stk.lexC (xs.drop k) (ys.drop k))) (fun _ _ _ _ i _ => n - (intOf i).toNat)
  case atStart => exact ⟨0, Nat.zero_le _, rfl, rfl, Lib.hid rfl⟩
  case round =>
    obtain ⟨k, hk, rfl, rfl, HL⟩ := hrel
    by_cases hlt : k < n
    · obtain ⟨ad, hA, hcell⟩ := HRR.out.2.2 (by omega)
      subst hA
      obtain ⟨bd, hB, hcell'⟩ := HSS.out.2.2 (by omega)
      subst hB
      have c1 := hcell k hlt
      have c2 := hcell' k hlt
      have hst := lexC_step (xs := xs) (ys := ys) (k := k) (by rw [HRR.out.1]; exact hlt) (by rw [HSS.out.1]; exact hlt)
      rw [← HL.out] at hst
      have HST := Lib.hid hst
      have h1 : (k : Int) < (n : Int) := by omega
      have h2 : (0 : Int) ≤ (k : Int) := by omega
      have h3 : decide ((n : Int) ≤ (k : Int)) = false := by simp; omega
      clear hcell hcell' hst
      obtain ⟨x, hx⟩ : ∃ x, xs.getD k 0 = x := ⟨_, rfl⟩
      obtain ⟨y, hy⟩ : ∃ y, ys.getD k 0 = y := ⟨_, rfl⟩
      rw [hx, hy] at HST
      rw [hx] at c1; rw [hy] at c2
      clear hx hy
      go_wp2_with fail
      refine (compare_int x y _).mono ?_
      rintro e w' ⟨rfl, rfl⟩
      by_cases h0 : cmp2 x y = 0
      · have HST2 := Lib.hid (HST.out.trans (if_pos h0))
        have h0b : (cmp2 x y == 0) = true := by rw [h0]; rfl
        clear HST
        rw [h0]
        go_wp2_with fail
        go_roundw
        case rel => exact ⟨k + 1, by omega, by go_num, by first | rfl | trivial, HST2⟩
        case measure => simp [intOf]; omega
      · have HST2 := Lib.hid (HST.out.trans (if_neg h0))
        have h0b : (cmp2 x y == 0) = false := by simpa using h0
        clear HST
        generalize cmp2 x y = z at *
        go_wp2_with fail
        go_ret
        exact ⟨by rw [HST2.out]; rfl, rfl⟩
    · obtain rfl : k = n := by omega
      have e : Stk.lexC xs ys = 0 := by
        rw [HL.out, List.drop_of_length_le (by rw [HRR.out.1]; exact Nat.le_refl _), List.drop_of_length_le (by rw [HSS.out.1]; exact Nat.le_refl _)]; rfl
      have HE := Lib.hid e
      clear HL e
      have h3 : decide ((k : Int) < (k : Int)) = false := by simp
      go_wp2_with fail
      go_ret
      exact ⟨by rw [HE.out]; rfl, rfl⟩

/-- A set's list. -/
structure SL where
  A : Option Addr
  c : Nat
  s : Nat
instance : Inhabited SL := ⟨⟨none, 0, 0⟩⟩
def SL.n (e : SL) : Nat := (Stk.setL e.s).length
def SL.val (e : SL) : Value := .slice e.A e.n e.c
/-- What it must be in a world. -/
def SL.Good (w : World) (b : Nat) (e : SL) : Prop := e.s < 16 ∧ ReadsInt w .i64 e.A e.n (Stk.setL e.s) ∧ ∀ ad, e.A = some ad → ad.block ≠ b ∧ ad.block < w.heap.size
set_option maxHeartbeats 1000000 in
theorem less_sets (b : Nat) (x y : SL) (w : World) (hx : x.Good w b) (hy : y.Good w b) :
    Calls Try.prog 15 #[x.val, y.val] w fun e w' => e = .returned (.int .i64 (Stk.cv x.s y.s)) ∧ w = w' := by
  unfold SL.val
  have hnx : x.n ≤ 4 := Stk.setL_len ⟨x.s, hx.1⟩
  have hny : y.n ≤ 4 := Stk.setL_len ⟨y.s, hy.1⟩
  by_cases h : x.n = y.n
  · have hr1 := hx.2.1
    have hr2 := hy.2.1
    have hcv : Stk.cv x.s y.s = Stk.lexC (Stk.setL x.s) (Stk.setL y.s) := by unfold Stk.cv; rw [if_pos (show (Stk.setL x.s).length = (Stk.setL y.s).length from h)]
    rw [hcv]
    rw [← h] at hr2 ⊢
    have HR1 := Lib.hid hr1; have HR2 := Lib.hid hr2
    clear hx hy hr1 hr2 hcv h hny
    go_enter Try.func15, Try.ntmps15
    go_wp2_with fail
    refine (compareL x.A y.A x.n x.c y.c _ _ w HR1.out HR2.out).mono ?_
    rintro e w' ⟨rfl, rfl⟩
    go_wp2_with fail
    go_ret
    exact ⟨rfl, rfl⟩
  · have hcv : Stk.cv x.s y.s = (x.n : Int) - (y.n : Int) := by unfold Stk.cv; rw [if_neg (show ¬ (Stk.setL x.s).length = (Stk.setL y.s).length from h)]; rfl
    rw [hcv]
    have hne : ((x.n : Int) == (y.n : Int)) = false := by simp; omega
    have e1 : wrap64 ((x.n : Int) - (y.n : Int)) = (x.n : Int) - (y.n : Int) := w64 _ (by omega) (by omega)
    clear hx hy hcv h
    generalize x.n = p at *
    generalize y.n = q at *
    go_enter Try.func15, Try.ntmps15
    go_wp2_with fail
    go_ret
    exact ⟨by first | rfl | rw [e1], rfl⟩
end Go.Proofs.Ytbnelomknjnplaa
