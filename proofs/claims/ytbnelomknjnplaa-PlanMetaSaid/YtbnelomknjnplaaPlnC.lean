/- plan.Valid of plans that have but a stack of nothing, or green, and a cache. -/
import Derived.Test.YtbnelomknjnplaaPlnB
namespace Go.Proofs.Ytbnelomknjnplaa
open Go.RowKit
open Go.Proofs.YtbnelomknjnplaaW.PrintWords

theorem boxes2 (w : World) (a b : Array Value) (s t : TypeId) :
    ((w.alloc (.cells a s)).alloc (.cells b t)).heap[w.heap.size]? = some (.cells a s (0, 0)) ∧ ((w.alloc (.cells a s)).alloc (.cells b t)).heap[w.heap.size + 1]? = some (.cells b t (0, 0)) ∧
    Below w.heap.size w ((w.alloc (.cells a s)).alloc (.cells b t)) ∧ ((w.alloc (.cells a s)).alloc (.cells b t)).heap.size = w.heap.size + 2 := by
  have h1 := alloc_new w a s
  have h2 := alloc_new (w.alloc (.cells a s)) b t
  have b1 : Below (w.heap.size + 1) (w.alloc (.cells a s)) ((w.alloc (.cells a s)).alloc (.cells b t)) := (Below.refl _ _).alloc (by simp) _
  simp only [World.size_alloc] at h2
  exact ⟨(b1.block _ (by omega)).trans h1, h2, ((Below.refl _ w).alloc (Nat.le_refl _) _).alloc (by simp) _, by simp⟩

theorem meta_none (W H : Int) (A : Option Addr) (n c : Nat) (S : Option Addr) (sn sc : Nat) (ca : Int) (T : Option Addr) (tn tc : Nat) (w : World) :
    Calls Try.prog 12 #[.agg #[.int .i64 W, .int .i64 H, .slice A n c], .agg (planC S sn sc ca 0 T tn tc)] w fun e w' => e = .returned (.bool true) ∧ Below w.heap.size w w' := by
  obtain ⟨h1, h2, hb, hs⟩ := boxes2 w #[.int .i64 W, .int .i64 H, .slice A n c] (planC S sn sc ca 0 T tn tc) 24 32
  have HB := Lib.hid hb
  clear h1 h2 hb
  go_enter Try.func12, Try.ntmps12
  go_wp2_with fail
  go_ret
  exact ⟨rfl, HB.out⟩

theorem valid_bad (W H : Int) (A : Option Addr) (n c : Nat) (S : Option Addr) (sn sc : Nat) (ss : List Int) (ca mb : Int) (T : Option Addr) (tn tc : Nat) (w : World) (HS : ReadsInt w .i64 S sn ss) (hg : (goodI W H n && stk ss 0) = false) :
    Calls Try.prog 8 #[.agg #[.int .i64 W, .int .i64 H, .slice A n c], .agg (planC S sn sc ca mb T tn tc)] w fun e w' => e = .returned (.bool false) ∧ Below w.heap.size w w' := by
  obtain ⟨h1, h2, hb, hs⟩ := boxes2 w #[.int .i64 W, .int .i64 H, .slice A n c] (planC S sn sc ca mb T tn tc) 24 32
  have HB := Lib.hid hb
  have HS0 := Lib.hid (HS.below hb)
  have HG := Lib.hid hg
  clear h1 h2 hb HS hg
  go_enter Try.func8, Try.ntmps8
  go_wp2_with fail
  generalize (w.alloc (.cells #[.int .i64 W, .int .i64 H, .slice A n c] 24)).alloc (.cells (planC S sn sc ca mb T tn tc) 32) = w0 at *
  refine (apply_bad W H A n c S sn sc ss ca mb T tn tc w0 HS0.out HG.out).mono ?_
  rintro e w1 ⟨rfl, hB⟩
  have HBB := Lib.hid (below_then HB.out (by omega) hB)
  have hz := hB.size
  clear hB
  go_wp2_with fail
  go_ret
  exact ⟨rfl, HBB.out.alloc (by omega) _⟩

set_option maxHeartbeats 2000000 in
theorem valid_good (W H : Int) (ad : Addr) (n c : Nat) (ps : List Int) (S : Option Addr) (sn sc : Nat) (ca : Int) (T : Option Addr) (tn tc : Nat) (w : World) (HR : ReadsInt w .u32 (some ad) n ps) (hps : ∀ x ∈ ps, 0 ≤ x ∧ x < 4294967296) (hn0 : 0 < n) (hn : n ≤ 100000) (hg : goodI W H n = true)
    (hsn : sn ≤ 1) (HS : ReadsInt w .i64 S sn (List.replicate sn 2)) :
    Calls Try.prog 8 #[.agg #[.int .i64 W, .int .i64 H, .slice (some ad) n c], .agg (planC S sn sc ca 0 T tn tc)] w fun e w' => e = .returned (.bool (decide (0 ≤ ca) && decide (ca ≤ 11))) ∧ Below w.heap.size w w' := by
  obtain ⟨h1, h2, hb, hs⟩ := boxes2 w #[.int .i64 W, .int .i64 H, .slice (some ad) n c] (planC S sn sc ca 0 T tn tc) 24 32
  have HB := Lib.hid hb
  have HS0 := Lib.hid (HS.below hb); have HR0 := Lib.hid (HR.below hb)
  have HG := Lib.hid hg; have HPS := Lib.hid hps
  have H2 := Lib.hid h2
  clear h1 h2 hb HS hg HR hps
  go_enter Try.func8, Try.ntmps8
  go_wp2_with fail
  generalize (w.alloc (.cells #[.int .i64 W, .int .i64 H, .slice (some ad) n c] 24)).alloc (.cells (planC S sn sc ca 0 T tn tc) 32) = w0 at *
  refine (apply_good W H ad n c ps S sn sc ca 0 T tn tc w0 HR0.out HPS.out hn0 hn HG.out hsn HS0.out).mono ?_
  rintro e w1 ⟨hB, A2, c2, rfl, hr⟩
  have hz := hB.size
  have HX2 := Lib.hid ((Mods.of_below hB []).blk H2.out (by simp))
  have HBB := Lib.hid (below_then HB.out (by omega) hB)
  have hla := blk_lt HX2.out
  have hpa : ∀ o, (w1.alloc o).heap[w.heap.size + 1]? = some (.cells (planC S sn sc ca 0 T tn tc) 32 (0, 0)) := fun o => (((Below.refl _ w1).alloc (Nat.le_refl _) o).block _ hla).trans HX2.out
  have a0 := fun o => (box9 (hpa o)).1
  have a1 := fun o => (box9 (hpa o)).2.1
  have a2 := fun o => (box9 (hpa o)).2.2.1
  have a3 := fun o => (box9 (hpa o)).2.2.2.1
  have a4 := fun o => (box9 (hpa o)).2.2.2.2.1
  have a5 := fun o => (box9 (hpa o)).2.2.2.2.2.1
  have a6 := fun o => (box9 (hpa o)).2.2.2.2.2.2.1
  have a7 := fun o => (box9 (hpa o)).2.2.2.2.2.2.2.1
  have a8 := fun o => (box9 (hpa o)).2.2.2.2.2.2.2.2
  have HPA := Lib.hid (hpa (.cells #[.int .i64 W, .int .i64 H, .slice A2 n c2] 24))
  have HIA := Lib.hid (alloc_new w1 #[.int .i64 W, .int .i64 H, .slice A2 n c2] 24)
  have HBA := Lib.hid (HBB.out.alloc (by omega) (.cells #[.int .i64 W, .int .i64 H, .slice A2 n c2] 24))
  clear hB hr hpa
  by_cases c1 : 0 ≤ ca
  · have d1 : decide (0 ≤ ca) = true := decide_eq_true c1
    by_cases c3 : ca ≤ 11
    · have d2 : decide (ca ≤ 11) = true := decide_eq_true c3
      go_wp2_with fail
      clear a0 a1 a2 a3 a4 a5 a6 a7 a8
      refine (meta_none W H A2 n c2 S sn sc ca T tn tc _).mono ?_
      rintro e w2 ⟨rfl, hB⟩
      have hz2 := hB.size
      have HI2 := Lib.hid ((Mods.of_below hB []).blk HIA.out (by simp))
      have HP2 := Lib.hid ((Mods.of_below hB []).blk HPA.out (by simp))
      have HB2 := Lib.hid (below_then HBA.out (by simp at hz2 ⊢; omega) hB)
      clear hB
      obtain ⟨_, _, i2, _, _, _⟩ := box3 HI2.out
      obtain ⟨_, _, _, _, _, _, _, _, b8⟩ := box9 HP2.out
      go_wp2_with fail
      refine (fits_none A2 n c2 w2).mono ?_
      rintro e w3 ⟨rfl, rfl⟩
      go_wp2_with fail
      go_ret
      exact ⟨by rw [d1, d2]; rfl, HB2.out⟩
    · have d2 : decide (ca ≤ 11) = false := decide_eq_false c3
      go_wp2_with fail
      go_ret
      exact ⟨by rw [d1, d2]; rfl, HBA.out⟩
  · have d1 : decide (0 ≤ ca) = false := decide_eq_false c1
    go_wp2_with fail
    go_ret
    exact ⟨by rw [d1]; rfl, HBA.out⟩
end Go.Proofs.Ytbnelomknjnplaa
