/- plan.Turn of green; plan.Apply of nothing, or of green alone. -/
import Derived.Test.YtbnelomknjnplaaGreenT
import Derived.Test.YtbnelomknjnplaaPlnA
import Derived.Test.YtbnelomknjnplaaCloneU
namespace Go.Proofs.Ytbnelomknjnplaa
open Go.RowKit
open Go.Proofs.YtbnelomknjnplaaW.PrintWords

/-- A plan that has but a stack, a cache, groups. -/
abbrev planC (S : Option Addr) (sn sc : Nat) (ca mb : Int) (T : Option Addr) (tn tc : Nat) : Array Value :=
  #[.slice S sn sc, .int .i64 0, .slice none 0 0, .int .i64 0, .slice none 0 0, .int .i64 ca, .int .i64 mb, .slice T tn tc, .slice none 0 0]
theorem box9 {w : World} {g : Nat} {a b c d e f x y z : Value} {T : TypeId} (h : w.heap[g]? = some (.cells #[a, b, c, d, e, f, x, y, z] T (0, 0))) :
    w.cell? ⟨g, 0, none⟩ = some a ∧ w.cell? ⟨g, 1, none⟩ = some b ∧ w.cell? ⟨g, 2, none⟩ = some c ∧ w.cell? ⟨g, 3, none⟩ = some d ∧ w.cell? ⟨g, 4, none⟩ = some e ∧ w.cell? ⟨g, 5, none⟩ = some f ∧ w.cell? ⟨g, 6, none⟩ = some x ∧ w.cell? ⟨g, 7, none⟩ = some y ∧ w.cell? ⟨g, 8, none⟩ = some z :=
  ⟨by rw [cell_blk h]; rfl, by rw [cell_blk h]; rfl, by rw [cell_blk h]; rfl, by rw [cell_blk h]; rfl, by rw [cell_blk h]; rfl, by rw [cell_blk h]; rfl, by rw [cell_blk h]; rfl, by rw [cell_blk h]; rfl, by rw [cell_blk h]; rfl⟩
/-- Three boxes, laid one behind the other. -/
theorem boxes3 (w : World) (a b c : Array Value) (s t u : TypeId) :
    (((w.alloc (.cells a s)).alloc (.cells b t)).alloc (.cells c u)).heap[w.heap.size]? = some (.cells a s (0, 0)) ∧ (((w.alloc (.cells a s)).alloc (.cells b t)).alloc (.cells c u)).heap[w.heap.size + 1]? = some (.cells b t (0, 0)) ∧
    (((w.alloc (.cells a s)).alloc (.cells b t)).alloc (.cells c u)).heap[w.heap.size + 2]? = some (.cells c u (0, 0)) ∧ Below w.heap.size w (((w.alloc (.cells a s)).alloc (.cells b t)).alloc (.cells c u)) ∧
    (((w.alloc (.cells a s)).alloc (.cells b t)).alloc (.cells c u)).heap.size = w.heap.size + 3 := by
  have h1 := alloc_new w a s
  have h2 := alloc_new (w.alloc (.cells a s)) b t
  have h3 := alloc_new ((w.alloc (.cells a s)).alloc (.cells b t)) c u
  have b1 : Below (w.heap.size + 1) (w.alloc (.cells a s)) ((w.alloc (.cells a s)).alloc (.cells b t)) := (Below.refl _ _).alloc (by simp) _
  have b2 : Below (w.heap.size + 2) ((w.alloc (.cells a s)).alloc (.cells b t)) (((w.alloc (.cells a s)).alloc (.cells b t)).alloc (.cells c u)) := (Below.refl _ _).alloc (by simp) _
  simp only [World.size_alloc] at h2 h3
  refine ⟨(b2.block _ (by omega)).trans ((b1.block _ (by omega)).trans h1), (b2.block _ (by omega)).trans h2, h3, (((Below.refl _ w).alloc (Nat.le_refl _) _).alloc (by simp) _).alloc (by simp; omega) _, by simp⟩

set_option maxHeartbeats 2000000 in
theorem turn_green (W H : Int) (ad : Addr) (n c : Nat) (ps : List Int) (S : Option Addr) (sn sc : Nat) (ca mb : Int) (T : Option Addr) (tn tc : Nat) (w : World) (HR : ReadsInt w .u32 (some ad) n ps) (hps : ∀ x ∈ ps, 0 ≤ x ∧ x < 4294967296) (hn0 : 0 < n) (hn : n ≤ 100000) (hg : goodI W H n = true) :
    Calls Try.prog 21 #[.agg #[.int .i64 W, .int .i64 H, .slice (some ad) n c], .agg (planC S sn sc ca mb T tn tc), .int .i64 2] w fun e w' =>
    Below w.heap.size w w' ∧ ∃ A2 c2, e = .returned (.tuple #[.agg #[.int .i64 W, .int .i64 H, .slice A2 n c2], .bool true]) ∧ ReadsInt w' .u32 A2 n (ps.map greenP) ∧ (∀ a, A2 = some a → w.heap.size ≤ a.block) := by
  obtain ⟨h1, h2, h3, hb, hs⟩ := boxes3 w #[.int .i64 W, .int .i64 H, .slice (some ad) n c] (planC S sn sc ca mb T tn tc) #[.int .i64 0, .int .i64 0, .slice none 0 0] 24 32 24
  have HG := Lib.hid hg; have HPS := Lib.hid hps
  have H1 := Lib.hid h1; have H3 := Lib.hid h3; have HB := Lib.hid hb
  have HR0 := Lib.hid (HR.below hb)
  clear h1 h2 h3 hb hg hps HR
  go_enter Try.func21, Try.ntmps21
  go_wp2_with fail
  generalize ((w.alloc (.cells #[.int .i64 W, .int .i64 H, .slice (some ad) n c] 24)).alloc (.cells (planC S sn sc ca mb T tn tc) 32)).alloc (.cells #[.int .i64 0, .int .i64 0, .slice none 0 0] 24) = w0 at *
  refine (greenForth_good W H ad n c ps w0 HR0.out HPS.out hn0 hn HG.out).mono ?_
  rintro e w1 ⟨hB, A2, c2, rfl, hr, hfr⟩
  have hz1 := hB.size
  have HX1 := Lib.hid ((Mods.of_below hB []).blk H1.out (by simp))
  have HX3 := Lib.hid ((Mods.of_below hB []).blk H3.out (by simp))
  have HBB := Lib.hid (below_then HB.out (by omega) hB)
  obtain ⟨p0, p1, p2, q0, q1, q2⟩ := box3 HX1.out
  obtain ⟨u0, u1, u2, g0, g1, g2⟩ := box3 HX3.out
  have HRD := Lib.hid hr
  have HFR := Lib.hid (show ∀ a, A2 = some a → w.heap.size + 3 ≤ a.block from fun a ha => by have := hfr a ha; omega)
  clear hB hr hfr
  go_wp2_with fail
  have hm1 := mods_box w.heap.size w1 (.int .i64 W) (.int .i64 H) (.slice A2 n c2)
  have hx3 := hm1.blk (show w1.heap[w.heap.size + 1 + 1]? = _ from HX3.out) (by simp; omega)
  refine bodyPost_ret (results_box rfl _ _ _ _ _ _ _ rfl (blk_set3 hx3 _ _ _) Try.underlying24 rfl size_image) rfl ?_
  refine ⟨below_box (below_box HBB.out (Nat.le_refl _) _ _ _) (by omega) _ _ _, A2, c2, rfl, ?_, fun a ha => by have := HFR.out a ha; omega⟩
  exact ReadsInt.mods (ReadsInt.mods HRD.out hm1 (fun a ha => by have := HFR.out a ha; simp; omega)) (mods_box (w.heap.size + 1 + 1) _ _ _ _) (fun a ha => by have := HFR.out a ha; simp; omega)

theorem apply_bad (W H : Int) (A : Option Addr) (n c : Nat) (S : Option Addr) (sn sc : Nat) (ss : List Int) (ca mb : Int) (T : Option Addr) (tn tc : Nat) (w : World) (HS : ReadsInt w .i64 S sn ss) (hg : (goodI W H n && stk ss 0) = false) :
    Calls Try.prog 11 #[.agg #[.int .i64 W, .int .i64 H, .slice A n c], .agg (planC S sn sc ca mb T tn tc)] w fun e w' =>
    e = .returned (.tuple #[.agg #[.int .i64 0, .int .i64 0, .slice none 0 0], .bool false]) ∧ Below w.heap.size w w' := by
  obtain ⟨h1, h2, h3, hb, hs⟩ := boxes3 w #[.int .i64 W, .int .i64 H, .slice A n c] (planC S sn sc ca mb T tn tc) #[.int .i64 0, .int .i64 0, .slice none 0 0] 24 32 24
  have HG := Lib.hid hg
  have H1 := Lib.hid h1; have H2 := Lib.hid h2; have H3 := Lib.hid h3; have HB := Lib.hid hb
  have HS0 := Lib.hid (HS.below hb)
  obtain ⟨gd, hgd⟩ : ∃ gd, goodI W H n = gd := ⟨_, rfl⟩
  obtain ⟨sk, hsk⟩ : ∃ sk, stk ss 0 = sk := ⟨_, rfl⟩
  have HGD := Lib.hid hgd; have HSK := Lib.hid hsk
  rw [hgd, hsk] at hg
  clear h1 h2 h3 hb HS HG hgd hsk
  go_enter Try.func11, Try.ntmps11
  go_wp2_with fail
  generalize ((w.alloc (.cells #[.int .i64 W, .int .i64 H, .slice A n c] 24)).alloc (.cells (planC S sn sc ca mb T tn tc) 32)).alloc (.cells #[.int .i64 0, .int .i64 0, .slice none 0 0] 24) = w0 at *
  refine (good_any W H A n c w0).mono ?_
  rw [HGD.out]
  rintro e w1 ⟨rfl, hB⟩
  have hz1 := hB.size
  have HX2 := Lib.hid ((Mods.of_below hB []).blk H2.out (by simp))
  have HX3 := Lib.hid ((Mods.of_below hB []).blk H3.out (by simp))
  have HS1 := Lib.hid (HS0.out.below hB)
  have HBB := Lib.hid (below_then HB.out (by omega) hB)
  obtain ⟨u0, u1, u2, g0, g1, g2⟩ := box3 HX3.out
  obtain ⟨s0, _⟩ := box9 HX2.out
  clear hB
  cases gd with
  | false =>
    go_wp2_with fail
    refine bodyPost_ret (results_box rfl _ _ _ _ _ _ _ rfl (blk_set3 (show w1.heap[w.heap.size + 1 + 1]? = _ from HX3.out) _ _ _) Try.underlying24 rfl size_image) rfl ?_
    exact ⟨rfl, below_box HBB.out (by omega) _ _ _⟩
  | true =>
    cases sk with
    | true => exact absurd hg (by simp)
    | false =>
      go_wp2_with fail
      refine (stack_any S sn sc ss w1 HS1.out).mono ?_
      rw [HSK.out]
      rintro e w2 ⟨rfl, rfl⟩
      go_wp2_with fail
      refine bodyPost_ret (results_box rfl _ _ _ _ _ _ _ rfl (blk_set3 (show w1.heap[w.heap.size + 1 + 1]? = _ from HX3.out) _ _ _) Try.underlying24 rfl size_image) rfl ?_
      exact ⟨rfl, below_box HBB.out (by omega) _ _ _⟩

/-- What green, or nothing, makes of pixels. -/
def greens (sn : Nat) (ps : List Int) : List Int := if sn = 0 then ps else ps.map greenP
set_option maxHeartbeats 4000000 in
theorem apply_good (W H : Int) (ad : Addr) (n c : Nat) (ps : List Int) (S : Option Addr) (sn sc : Nat) (ca mb : Int) (T : Option Addr) (tn tc : Nat) (w : World) (HR : ReadsInt w .u32 (some ad) n ps) (hps : ∀ x ∈ ps, 0 ≤ x ∧ x < 4294967296) (hn0 : 0 < n) (hn : n ≤ 100000) (hg : goodI W H n = true)
    (hsn : sn ≤ 1) (HS : ReadsInt w .i64 S sn (List.replicate sn 2)) :
    Calls Try.prog 11 #[.agg #[.int .i64 W, .int .i64 H, .slice (some ad) n c], .agg (planC S sn sc ca mb T tn tc)] w fun e w' =>
    Below w.heap.size w w' ∧ ∃ A2 c2, e = .returned (.tuple #[.agg #[.int .i64 W, .int .i64 H, .slice A2 n c2], .bool true]) ∧ ReadsInt w' .u32 A2 n (greens sn ps) := by
  obtain ⟨h1, h2, h3, hb, hs⟩ := boxes3 w #[.int .i64 W, .int .i64 H, .slice (some ad) n c] (planC S sn sc ca mb T tn tc) #[.int .i64 0, .int .i64 0, .slice none 0 0] 24 32 24
  have HG := Lib.hid hg; have HPS := Lib.hid hps
  have H1 := Lib.hid h1; have H2 := Lib.hid h2; have H3 := Lib.hid h3; have HB := Lib.hid hb
  have HS0 := Lib.hid (HS.below hb); have HR0 := Lib.hid (HR.below hb)
  have HSW := Lib.hid HS
  have HSK := Lib.hid (show stk (List.replicate sn 2) 0 = true from by
    have : sn = 0 ∨ sn = 1 := by omega
    rcases this with rfl | rfl <;> rfl)
  clear h1 h2 h3 hb HS HR hg hps
  go_enter Try.func11, Try.ntmps11
  go_wp2_with fail
  generalize ((w.alloc (.cells #[.int .i64 W, .int .i64 H, .slice (some ad) n c] 24)).alloc (.cells (planC S sn sc ca mb T tn tc) 32)).alloc (.cells #[.int .i64 0, .int .i64 0, .slice none 0 0] 24) = w0 at *
  refine (good_any W H (some ad) n c w0).mono ?_
  rw [HG.out]
  rintro e w1 ⟨rfl, hB⟩
  have hz1 := hB.size
  have HX1 := Lib.hid ((Mods.of_below hB []).blk H1.out (by simp))
  have HX2 := Lib.hid ((Mods.of_below hB []).blk H2.out (by simp))
  have HX3 := Lib.hid ((Mods.of_below hB []).blk H3.out (by simp))
  have HS1 := Lib.hid (HS0.out.below hB); have HR1 := Lib.hid (HR0.out.below hB)
  have HBB := Lib.hid (below_then HB.out (by omega) hB)
  obtain ⟨p0, p1, p2, q0, q1, q2⟩ := box3 HX1.out
  obtain ⟨s0, _⟩ := box9 HX2.out
  clear hB
  go_wp2_with fail
  refine (stack_any S sn sc _ w1 HS1.out).mono ?_
  rw [HSK.out]
  rintro e w2 ⟨rfl, rfl⟩
  go_wp2_with fail
  refine (cloneU (some ad) n c ps w1 HR1.out (by omega)).mono ?_
  rintro e w2 ⟨v, rfl, hO, hB⟩
  obtain ⟨A2, c2, rfl, hr⟩ := own_reads hO
  have hfr : ∀ a, A2 = some a → w1.heap.size ≤ a.block := fun a ha => (hO.lt a.block (by rw [ha]; rfl)).1
  have hz2 := hB.size
  have HY1 := Lib.hid ((Mods.of_below hB []).blk HX1.out (by simp))
  have HY2 := Lib.hid ((Mods.of_below hB []).blk HX2.out (by simp))
  have HY3 := Lib.hid ((Mods.of_below hB []).blk HX3.out (by simp))
  have HSY := Lib.hid (HS1.out.below hB)
  have HBY := Lib.hid (below_then HBB.out (by omega) hB)
  have HRY := Lib.hid hr
  have HFR := Lib.hid (show ∀ a, A2 = some a → w.heap.size + 3 ≤ a.block from fun a ha => by have := hfr a ha; omega)
  clear hB hO hr hfr p0 p1 p2 q0 q1 q2 s0
  obtain ⟨p0, p1, p2, q0, q1, q2⟩ := box3 HY1.out
  obtain ⟨s0, s1, s2, s3, s4, s5, s6, s7, s8⟩ := box9 HY2.out
  go_wp2_with fail
  clear p0 p1 p2 q0 q1 q2 s0 s1 s2 s3 s4 s5 s6 s7 s8
  have hms : Mods [w.heap.size] w2 (w2.setCell ⟨w.heap.size, 2, none⟩ (.slice A2 n c2)) := (Mods.refl [w.heap.size] w2).setCell (p := ⟨w.heap.size, 2, none⟩) (.inl (by simp)) _
  have hz3 := hms.size
  go_loopw [7, 8, 9, 27] (fun _ _ _ kv wr => ∃ (k : Nat) (A3 : Option Addr) (c3 : Nat), k ≤ sn ∧ kv = .int .i64 k ∧ Hid (wr.heap[w.heap.size]? = some (.cells #[.int .i64 W, .int .i64 H, .slice A3 n c3] 24 (0, 0))) ∧ Hid (wr.heap[w.heap.size + 1]? = some (.cells (planC S sn sc ca mb T tn tc) 32 (0, 0))) ∧ Hid (wr.heap[w.heap.size + 1 + 1]? = some (.cells #[.int .i64 0, .int .i64 0, .slice none 0 0] 24 (0, 0))) ∧ Hid (ReadsInt wr .u32 A3 n (greens k ps)) ∧ Hid (∀ a, A3 = some a → w.heap.size + 3 ≤ a.block) ∧ w.heap.size + 3 ≤ wr.heap.size ∧ Hid (Below w.heap.size w wr)) (fun _ _ _ kv _ => sn - (intOf kv).toNat)
  case atStart => exact ⟨0, A2, c2, Nat.zero_le _, rfl, Lib.hid (blk_set HY1.out 2 _), Lib.hid (hms.blk HY2.out (by simp)), Lib.hid (hms.blk (show w2.heap[w.heap.size + 1 + 1]? = _ from HY3.out) (by simp; omega)), Lib.hid (ReadsInt.mods HRY.out hms (fun a ha => by have := HFR.out a ha; simp; omega)), HFR, by omega, Lib.hid (HBY.out.setCell (p := ⟨w.heap.size, 2, none⟩) (Nat.le_refl _) _)⟩
  case round =>
    clear hms hz3
    obtain ⟨k, A3, c3, hk, rfl, HU1, HU2, HU3, HRU, HFU, hsz, HBU⟩ := hrel
    obtain ⟨p0, p1, p2, q0, q1, q2⟩ := box3 HU1.out
    obtain ⟨s0, s1, s2, s3, s4, s5, s6, s7, s8⟩ := box9 HU2.out
    obtain ⟨u0, u1, u2, g0, g1, g2⟩ := box3 HU3.out
    by_cases hlt : k < sn
    · obtain rfl : sn = 1 := by omega
      obtain rfl : k = 0 := by omega
      obtain ⟨sd, hsd, hsc⟩ := HSW.out.2.2 (by omega)
      subst hsd
      have hc0 : wr.cell? (sd.add 0) = some (.int .i64 2) := pw_cell_below HBU.out (hsc 0 (by omega))
      have hc1 : wr.cell? sd = some (.int .i64 2) := by rw [show sd.add 0 = sd from by simp [Addr.add]] at hc0; exact hc0
      obtain ⟨ad3, had3, _⟩ := HRU.out.2.2 hn0
      subst had3
      have hge : goodI W H n = true := HG.out
      go_wp2_with fail
      refine (turn_green W H ad3 n c3 ps (some sd) 1 sc ca mb T tn tc wr HRU.out HPS.out hn0 hn HG.out).mono ?_
      rintro e w5 ⟨hB, A5, c5, rfl, hr, hfr⟩
      have hz5 := hB.size
      have HV1 := Lib.hid ((Mods.of_below hB []).blk HU1.out (by simp))
      have HV2 := Lib.hid ((Mods.of_below hB []).blk HU2.out (by simp))
      have HV3 := Lib.hid ((Mods.of_below hB []).blk HU3.out (by simp))
      have HBV := Lib.hid (below_then HBU.out (by omega) hB)
      have HRV := Lib.hid hr
      have HFV := Lib.hid (show ∀ a, A5 = some a → w.heap.size + 3 ≤ a.block from fun a ha => by have := hfr a ha; omega)
      clear hB hr hfr p0 p1 p2 q0 q1 q2 s0 s1 s2 s3 s4 s5 s6 s7 s8 u0 u1 u2 g0 g1 g2 hc0 hc1 hsc
      have hva : ∀ o, (w5.alloc o).heap[w.heap.size]? = some (.cells #[.int .i64 W, .int .i64 H, .slice (some ad3) n c3] 24 (0, 0)) := fun o => (((Below.refl _ w5).alloc (Nat.le_refl _) o).block _ (blk_lt HV1.out)).trans HV1.out
      have a0 := fun o => (box3 (hva o)).1
      have a1 := fun o => (box3 (hva o)).2.1
      have a2 := fun o => (box3 (hva o)).2.2.1
      have a3 := fun o => (box3 (hva o)).2.2.2.1
      have a4 := fun o => (box3 (hva o)).2.2.2.2.1
      have a5 := fun o => (box3 (hva o)).2.2.2.2.2
      go_wp2_with fail
      go_roundw
      case rel =>
        have hm : Mods [w.heap.size] w5 ((((w5.alloc (.cells #[.int .i64 W, .int .i64 H, .slice A5 n c5] 24)).setCell ⟨w.heap.size, 0, none⟩ (.int .i64 W)).setCell ⟨w.heap.size, 1, none⟩ (.int .i64 H)).setCell ⟨w.heap.size, 2, none⟩ (.slice A5 n c5)) := ((((Mods.refl [w.heap.size] w5).alloc _).setCell (p := ⟨w.heap.size, 0, none⟩) (.inl (by simp)) _).setCell (p := ⟨w.heap.size, 1, none⟩) (.inl (by simp)) _).setCell (p := ⟨w.heap.size, 2, none⟩) (.inl (by simp)) _
        have hsz5 := hm.size
        have L1 := Lib.hid (blk_set3 (hva (.cells #[.int .i64 W, .int .i64 H, .slice A5 n c5] 24)) (.int .i64 W) (.int .i64 H) (.slice A5 n c5))
        have L2 := Lib.hid (hm.blk HV2.out (by simp))
        have L3 := Lib.hid (hm.blk HV3.out (by simp; omega))
        have L4 := Lib.hid (show ReadsInt _ .u32 A5 n (greens 1 ps) from ReadsInt.mods HRV.out hm (fun a ha => by have := HFV.out a ha; simp; omega))
        have L5 := Lib.hid (Below.then_mods HBV.out (by omega) hm (by simp))
        first
          | exact ⟨1, A5, c5, Nat.le_refl _, rfl, L1, L2, L3, L4, HFV, by omega, L5⟩
          | exact ⟨_, _, _, _, _, _, _, _, _, _, _, _, _, _, _, _, _, _, _, _, ⟨1, A5, c5, Nat.le_refl _, rfl, L1, L2, L3, L4, HFV, by omega, L5⟩, rfl⟩
      case measure => simp [intOf]
    · obtain rfl : k = sn := by omega
      have hd : decide ((k : Int) < (k : Int)) = false := by simp
      go_wp2_with fail
      refine bodyPost_ret (results_box rfl _ _ _ _ _ _ _ rfl (blk_set3 HU3.out _ _ _) Try.underlying24 rfl size_image) rfl ?_
      exact ⟨below_box HBU.out (by omega) _ _ _, A3, c3, rfl, ReadsInt.mods HRU.out (mods_box (w.heap.size + 1 + 1) _ _ _ _) (fun a ha => by have := HFU.out a ha; simp; omega)⟩
end Go.Proofs.Ytbnelomknjnplaa
