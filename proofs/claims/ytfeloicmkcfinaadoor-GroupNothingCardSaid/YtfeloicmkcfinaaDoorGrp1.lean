/- What package group does: sizes, a group of five codes. -/
import Derived.Test.YtfeloicmkcfinaaDoorTree4
import Derived.Test.YtfeloicmkcfinaaDoorBoxK
namespace Go.Proofs.YtfeloicmkcfinaaDoor
open Go.RowKit
open Go.Proofs.YtfeloicmkcfinaaDoorW.PrintWords
open Srt

theorem box5 {w : World} {g : Nat} {x0 x1 x2 x3 x4 : Value} {T : TypeId} (h : w.heap[g]? = some (.cells #[x0, x1, x2, x3, x4] T (0, 0))) :
    w.cell? ⟨g, 0, none⟩ = some x0 ∧ w.cell? ⟨g, 1, none⟩ = some x1 ∧ w.cell? ⟨g, 2, none⟩ = some x2 ∧ w.cell? ⟨g, 3, none⟩ = some x3 ∧ w.cell? ⟨g, 4, none⟩ = some x4 :=
  ⟨by rw [cell_blk h]; rfl, by rw [cell_blk h]; rfl, by rw [cell_blk h]; rfl, by rw [cell_blk h]; rfl, by rw [cell_blk h]; rfl⟩

theorem box5f {w : World} {g : Nat} {x0 x1 x2 x3 x4 : Value} {T : TypeId} (h : w.heap[g]? = some (.cells #[x0, x1, x2, x3, x4] T (0, 0))) :
    w.frozen? ⟨g, 0, none⟩ = false ∧ w.frozen? ⟨g, 1, none⟩ = false ∧ w.frozen? ⟨g, 2, none⟩ = false ∧ w.frozen? ⟨g, 3, none⟩ = false ∧ w.frozen? ⟨g, 4, none⟩ = false :=
  ⟨free_blk h _, free_blk h _, free_blk h _, free_blk h _, free_blk h _⟩
theorem blk_set5 {w : World} {g : Nat} {x0 x1 x2 x3 x4 : Value} {T : TypeId} (h : w.heap[g]? = some (.cells #[x0, x1, x2, x3, x4] T (0, 0))) (a b c d e : Value) : (((((w.setCell ⟨g, 0, none⟩ a).setCell ⟨g, 1, none⟩ b).setCell ⟨g, 2, none⟩ c).setCell ⟨g, 3, none⟩ d).setCell ⟨g, 4, none⟩ e).heap[g]? = some (.cells #[a, b, c, d, e] T (0, 0)) :=
  blk_set (blk_set (blk_set (blk_set (blk_set h 0 a) 1 b) 2 c) 3 d) 4 e
theorem mods_set5 (g : Nat) (w : World) (a b c d e : Value) : Mods [g] w (((((w.setCell ⟨g, 0, none⟩ a).setCell ⟨g, 1, none⟩ b).setCell ⟨g, 2, none⟩ c).setCell ⟨g, 3, none⟩ d).setCell ⟨g, 4, none⟩ e) :=
  (((((Mods.refl [g] w).setCell (p := ⟨g, 0, none⟩) (.inl (by simp)) _).setCell (p := ⟨g, 1, none⟩) (.inl (by simp)) _).setCell (p := ⟨g, 2, none⟩) (.inl (by simp)) _).setCell (p := ⟨g, 3, none⟩) (.inl (by simp)) _).setCell (p := ⟨g, 4, none⟩) (.inl (by simp)) _
theorem may_in (c : Nat) (w : World) (hc : c ≤ 11) : Calls Tryd.prog 16 #[.int .i64 c] w fun e w' => e = .returned (.bool true) ∧ w = w' := by
  have d0 : decide ((0 : Int) ≤ (c : Int)) = true := decide_eq_true (by omega)
  have d1 : decide ((c : Int) ≤ 11) = true := decide_eq_true (by omega)
  go_enter Tryd.func16, Tryd.ntmps16
  go_wp2
  go_ret
  exact ⟨rfl, rfl⟩
theorem wide_in (n : Nat) (w : World) (h : 1 ≤ n ∧ n ≤ 16384) : Calls Tryd.prog 18 #[.int .i64 n] w fun e w' => e = .returned (.bool true) ∧ w = w' := by
  have d0 : decide ((1 : Int) ≤ (n : Int)) = true := decide_eq_true (by omega)
  have d1 : decide ((n : Int) ≤ 16384) = true := decide_eq_true (by omega)
  go_enter Tryd.func18, Tryd.ntmps18
  go_wp2
  go_ret
  exact ⟨rfl, rfl⟩
/-- How many symbols each code has. -/
def greenN (c : Nat) : Nat := if c = 0 then 280 else 280 + 2 ^ c
def szN (c k : Nat) : Nat := if k = 0 then greenN c else if k = 4 then 40 else 256
def szA (c : Nat) : Array Value := #[.int .i64 (greenN c), .int .i64 256, .int .i64 256, .int .i64 256, .int .i64 40]
theorem greenN_le {c : Nat} (hc : c ≤ 11) : 280 ≤ greenN c ∧ greenN c ≤ 2328 := by
  have h : 2 ^ c ≤ 2048 := Nat.pow_le_pow_right (n := 2) (by decide) hc
  unfold greenN
  generalize 2 ^ c = q at *
  split <;> omega
theorem size_sizes : (Tryd.prog.info? 50).map (·.size) = some 5 := by kernel_rfl
set_option maxHeartbeats 1000000 in
theorem sizes_in (c : Nat) (w : World) (hc : c ≤ 11) : Calls Tryd.prog 14 #[.int .i64 c] w fun e w' => e = .returned (.agg (szA c)) ∧ Below w.heap.size w w' := by
  by_cases h0 : c = 0
  · subst h0
    go_enter Tryd.func14, Tryd.ntmps14
    go_wp2_with fail
    refine (may_in 0 _ (by omega)).mono ?_
    rintro e w' ⟨rfl, rfl⟩
    go_wp2_with fail
    refine bodyPost_ret (results_oneK rfl _ _ _ _ _ _ _ rfl ((Below.heap_alloc _ _ _ (by simp)).trans (alloc_new _ _ _)) Tryd.underlying50 rfl size_sizes) rfl ?_
    exact ⟨rfl, ((Below.refl _ _).alloc (Nat.le_refl _) _).alloc (by simp) _⟩
  · have hcs : c = 1 ∨ c = 2 ∨ c = 3 ∨ c = 4 ∨ c = 5 ∨ c = 6 ∨ c = 7 ∨ c = 8 ∨ c = 9 ∨ c = 10 ∨ c = 11 := by omega
    have HMAY := Lib.hid (fun W => may_in c W hc)
    clear hc h0
    rcases hcs with rfl | rfl | rfl | rfl | rfl | rfl | rfl | rfl | rfl | rfl | rfl
    all_goals
      go_enter Tryd.func14, Tryd.ntmps14
      go_wp2_with fail
      refine (HMAY.out _).mono ?_
      rintro e w' ⟨rfl, rfl⟩
      go_upto_region 5 with fail
      go_region
      go_wp2_with fail
      refine bodyPost_ret (results_oneK rfl _ _ _ _ _ _ _ rfl (show _ = _ from (Below.heap_alloc _ _ _ (by simp)).trans (alloc_new _ _ _)) Tryd.underlying50 rfl size_sizes) rfl ?_
      exact ⟨rfl, (((Below.refl _ _).alloc (Nat.le_refl _) _).alloc (by simp) _).drew⟩
end Go.Proofs.YtfeloicmkcfinaaDoor
