/- table.Pack. -/
import Derived.Test.YtmgkdlkjcncniaaTab5
namespace Go.Proofs.Ytmgkdlkjcncniaa
open Go.RowKit Go.Maps
open Go.Proofs.YtmgkdlkjcncniaaW.PrintWords

def okP (W H : Int) (n m : Nat) : Bool := goodI W H n && goodT m

theorem box3 {w : World} {g : Nat} {x y z : Value} {T : TypeId} (h : w.heap[g]? = some (.cells #[x, y, z] T (0, 0))) :
    w.cell? ⟨g, 0, none⟩ = some x ∧ w.cell? ⟨g, 1, none⟩ = some y ∧ w.cell? ⟨g, 2, none⟩ = some z ∧ w.frozen? ⟨g, 0, none⟩ = false ∧ w.frozen? ⟨g, 1, none⟩ = false ∧ w.frozen? ⟨g, 2, none⟩ = false :=
  ⟨by rw [cell_blk h]; rfl, by rw [cell_blk h]; rfl, by rw [cell_blk h]; rfl, free_blk h _, free_blk h _, free_blk h _⟩

set_option maxRecDepth 100000 in
set_option maxHeartbeats 4000000 in
theorem pack_bad (W H : Int) (A B : Option Addr) (n c m d : Nat) (w : World) (h : okP W H n m = false) : Calls Try.prog 10 #[.agg #[.int .i64 W, .int .i64 H, .slice A n c], .slice B m d] w fun e w' =>
    e = .returned (.tuple #[.agg #[.int .i64 0, .int .i64 0, .slice none 0 0], .int .i64 1]) ∧ Below w.heap.size w w' := by
  unfold okP at h
  have hnew := alloc_new (w.alloc (.cells #[.int .i64 W, .int .i64 H, .slice A n c] 24)) #[.int .i64 0, .int .i64 0, .slice none 0 0] 24
  rw [World.size_alloc] at hnew
  have HNEW := Lib.hid hnew
  have hb0 := ((Below.refl _ w).alloc (Nat.le_refl _) (.cells #[.int .i64 W, .int .i64 H, .slice A n c] 24)).alloc (by simp) (.cells #[.int .i64 0, .int .i64 0, .slice none 0 0] 24)
  have HB0 := Lib.hid hb0
  clear hnew hb0
  obtain ⟨hg, hgv⟩ : ∃ hg, goodI W H n = hg := ⟨_, rfl⟩
  have HG := Lib.hid hgv
  rw [hgv] at h
  have HT := Lib.hid h
  clear hgv h
  cases hg with
  | false =>
    go_enter Try.func10, Try.ntmps10
    go_wp2_with (first
      | (go_at_call 22; refine (good_any W H A n c _).mono ?_; rw [HG.out]; rintro e w1 ⟨rfl, hB⟩; have HPX := Lib.hid ((Mods.of_below hB []).blk HNEW.out (by simp)); obtain ⟨u0, u1, u2, f0, f1, f2⟩ := box3 HPX.out; have HBB := Lib.hid (below_then HB0.out (by simp; omega) hB); clear hB)
      | fail)
    refine bodyPost_ret (results_box rfl _ _ _ _ _ _ _ rfl (blk_set3 HPX.out _ _ _) Try.underlying24 rfl size_image) rfl ?_
    exact ⟨rfl, below_box HBB.out (by omega) _ _ _⟩
  | true =>
    have ht := HT.out
    rw [Bool.true_and] at ht
    have HTT := Lib.hid ht
    clear ht
    go_enter Try.func10, Try.ntmps10
    go_wp2_with (first
      | (go_at_call 22; refine (good_any W H A n c _).mono ?_; rw [HG.out]; rintro e w1 ⟨rfl, hB⟩; have HPX := Lib.hid ((Mods.of_below hB []).blk HNEW.out (by simp)); obtain ⟨u0, u1, u2, f0, f1, f2⟩ := box3 HPX.out; have HBB := Lib.hid (below_then HB0.out (by simp; omega) hB); clear hB)
      | (go_at_call 25; refine (goodT_any B m d _).mono ?_; rw [HTT.out]; rintro e w2' ⟨rfl, rfl⟩)
      | fail)
    refine bodyPost_ret (results_box rfl _ _ _ _ _ _ _ rfl (blk_set3 HPX.out _ _ _) Try.underlying24 rfl size_image) rfl ?_
    exact ⟨rfl, below_box HBB.out (by omega) _ _ _⟩
end Go.Proofs.Ytmgkdlkjcncniaa
