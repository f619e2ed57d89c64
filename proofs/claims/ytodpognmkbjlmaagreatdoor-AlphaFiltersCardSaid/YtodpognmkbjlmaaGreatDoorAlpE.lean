/- alpha.Encode and Decode of a plane of two bytes: the law's own answers. -/
import Derived.Test.YtodpognmkbjlmaaGreatDoorAlp2
import Derived.Test.YtodpognmkbjlmaaGreatDoorAlpS
namespace Go.Proofs.YtodpognmkbjlmaaGreatDoor
open Go.RowKit
open Go.Proofs.YtodpognmkbjlmaaGreatDoorW.PrintWords

theorem results_box2 {P : Program} {fn : Func} {p u q : Tmp} {ty : TypeId} (h : fn.results = #[.cell p ty, .tmp u, .tmp q]) (tmps : Array Value) (w : World) (g : Nat) (t : TypeId) (cs : Array Value) (fr : Nat × Nat) (d : TypeDesc)
    (hp : tmps.getD p undef = .pointer (some ⟨g, 0, none⟩)) (hg : w.heap[g]? = some (.cells cs t fr))
    (hu : P.underlying ty = some d) (hd : (match d with | .struct _ | .array _ _ => true | _ => false) = true) (hi : (P.info? ty).map (·.size) = some cs.size) :
    (results fn tmps).run P w = .ok (.tuple #[.agg cs, tmps.getD u undef, tmps.getD q undef]) w := by
  have : (results fn tmps).run P w = ((asAddr (tmps.getD p undef)).run P w).andThen fun a w₁ => ((loadVar ty a).run P w₁).andThen fun v w₂ => .ok (.tuple #[v, tmps.getD u undef, tmps.getD q undef]) w₂ := by
    simp only [results, h]
    simp [Sem.run_bind, Result.andThen]
  rw [this, hp, show (asAddr (Value.pointer (some ⟨g, 0, none⟩))).run P w = .ok ⟨g, 0, none⟩ w from rfl]
  simp only [Result.andThen]
  rw [run_loadVar_row w g t ty cs fr d hg hu hd hi]
theorem size_plane : (Tryz.prog.info? 24).map (·.size) = some 3 := by kernel_rfl

set_option maxHeartbeats 2000000 in
theorem encode_two (ad : Addr) (w : World) (HR : ReadsInt w .u8 (some ad) 2 [5, 7]) :
    Calls Tryz.prog 11 #[.agg #[.int .i64 2, .int .i64 1, .slice (some ad) 2 2], .int .i64 1, .int .i64 1, .bool false] w fun e w' => Below w.heap.size w w' ∧ ∃ A2 c2, e = .returned (.tuple #[.slice (some A2) 3 c2, .int .i64 0]) ∧ 3 ≤ c2 ∧ ReadsInt w' .u8 (some A2) 3 [20, 5, 2] := by
  have hb0 := (Below.refl _ w).alloc (Nat.le_refl _) (.cells #[.int .i64 2, .int .i64 1, .slice (some ad) 2 2] 24)
  have HB0 := Lib.hid hb0
  have HR0 := Lib.hid (HR.below hb0)
  clear hb0 HR
  go_enter Tryz.func11, Tryz.ntmps11
  go_wp2_with fail
  refine (forthA_good 2 1 1 ad 2 2 [5, 7] _ HR0.out (by simp) (by omega) (by omega) (by omega) (by decide) (by omega)).mono ?_
  rintro e w1 ⟨hB, A2, c2, rfl, hr⟩
  rw [show Alp.foL 1 2 [5, 7] 2 = [5, 2] from by decide] at hr
  have HB1 := Lib.hid (below_then HB0.out HB0.out.size hB)
  have HR1 := Lib.hid hr
  clear hB hr
  have hz := HB1.out.size
  go_wp2_with (at_builtin; refine print_append_row w1.heap.size rfl _ _ 22 5 .u8 1 rfl Tryz.underlying22 info_u8 (by decide) _ [20] [5, 2] A2 2 c2 rfl rfl (by exact own_lit w1 w1.heap.size 5 .u8 [20] (Nat.le_refl _) (by decide)) (by exact HR1.out.below ((Below.refl _ w1).alloc (Nat.le_refl _) _)) ((Below.refl _ w1).alloc (Nat.le_refl _) _) (by simp) (by simp) ?_)
  intro v1 w2 hown hB2 _ _
  have hform : ∃ g cp, v1 = .slice (some ⟨g, 0, none⟩) 3 cp ∧ w1.heap.size ≤ g ∧ g < w2.heap.size := some_own hown (by decide)
  obtain ⟨g, cp, rfl, _, _⟩ := hform
  have HO := Lib.hid (own_reads' hown); have HB2 := Lib.hid (below_then HB1.out hz hB2); have HCP := Lib.hid (own_cap hown)
  clear hown hB2
  go_wp2_with fail
  refine bodyPost_ret (results_two rfl _ _ _) rfl ?_
  exact ⟨HB2.out, _, _, rfl, HCP.out, HO.out⟩
set_option maxHeartbeats 1000000 in
theorem cloneS (ad : Addr) (n c : Nat) (xs : List Int) (w : World) (HR : ReadsInt w .u8 (some ad) n xs) (hn : n ≤ 17592186044416) :
    Calls Tryz.prog 28 #[.slice (some ad) n c] w fun e w' => ∃ v, e = .returned v ∧ w'.ownsRow w.heap.size 5 1 v n (nums .u8 xs) ∧ Below w.heap.size w w' := by
  have HRR := Lib.hid HR
  have hbl := HR.1
  clear HR
  have hnil : ∀ W, (binOp .eql 22 (.slice (some ad) n c) (.slice none 0 0)).run Tryz.prog W = .ok (.bool false) W := fun W => Lib.run_eql_slice_nil W 22 5 (some ad) n c 0 0 Tryz.underlying22
  go_enter Tryz.func28, Tryz.ntmps28
  go_wp2_with (at_builtin; refine print_append_row w.heap.size rfl _ _ 22 5 .u8 1 rfl Tryz.underlying22 info_u8 (by decide) _ [] xs (some ad) n c rfl rfl (by exact own_lit w w.heap.size 5 .u8 [] (Nat.le_refl _) (by decide)) (by exact HRR.out.below ((Below.refl _ w).alloc (Nat.le_refl _) _)) ((Below.refl _ w).alloc (Nat.le_refl _) _) (by simp) (by simp; omega) ?_)
  intro v1 w1 hown hB1 _ _
  obtain ⟨A1, c1, rfl, hR1⟩ := own_reads hown
  have HO := Lib.hid hown; have HB := Lib.hid hB1
  clear hown hB1 hR1
  have HL := Lib.hid hbl
  clear hbl
  go_wp2_with fail
  go_ret
  exact ⟨_, rfl, HO.out, HB.out⟩

set_option maxHeartbeats 2000000 in
theorem inner_two (ad : Addr) (c : Nat) (w : World) (HR : ReadsInt w .u8 (some ad) 3 [20, 5, 2]) (hc : 3 ≤ c) :
    Calls Tryz.prog 20 #[.slice (some ad) 3 c, .int .i64 2, .int .i64 1] w fun e w' => Below w.heap.size w w' ∧ ∃ A2 c2, e = .returned (.tuple #[.slice (some A2) 2 c2, .int .i64 0]) ∧ ReadsInt w' .u8 (some A2) 2 [5, 2] := by
  obtain ⟨a', h', hcell⟩ := HR.2.2 (by omega)
  cases h'
  have c0 : w.cell? ad = some (.int .u8 20) := by have := hcell 0 (by omega); rwa [show ad.add 0 = ad from by simp [Addr.add]] at this
  have hrd : ReadsInt w .u8 (some (ad.add 1)) 2 [5, 2] := by
    have h := HR.drop_ 1 (by omega) hc
    rw [if_neg (by omega)] at h
    exact h
  have HRD := Lib.hid hrd
  have e1 : bits BinOp.and .u8 20 3 = 0 := by decide
  have hc1 : ¬ c = 1 := by omega
  have hc2 : (3 : Int) ≤ (c : Int) := by omega
  clear hcell hrd HR
  go_enter Tryz.func20, Tryz.ntmps20
  go_wp2_with fail
  refine (cloneS (ad.add 1) 2 (c - 1) [5, 2] w HRD.out (by omega)).mono ?_
  rintro e w1 ⟨v, rfl, hO, hB⟩
  have hform : ∃ g cp, v = .slice (some ⟨g, 0, none⟩) 2 cp ∧ w.heap.size ≤ g ∧ g < w1.heap.size := some_own hO (by decide)
  obtain ⟨g, cp, rfl, _, _⟩ := hform
  have HO := Lib.hid (own_reads' hO); have HB := Lib.hid hB
  clear hO hB
  go_wp2_with fail
  refine bodyPost_ret (results_two rfl _ _ _) rfl ?_
  exact ⟨HB.out, _, _, rfl, HO.out⟩
set_option maxHeartbeats 2000000 in
theorem decode_two (ad : Addr) (c : Nat) (w : World) (HR : ReadsInt w .u8 (some ad) 3 [20, 5, 2]) (hc : 3 ≤ c) :
    Calls Tryz.prog 12 #[.slice (some ad) 3 c, .int .i64 2, .int .i64 1, .int .i64 9] w fun e w' => Below w.heap.size w w' ∧ ∃ A2 c2, e = .returned (.tuple #[.agg #[.int .i64 2, .int .i64 1, .slice A2 2 c2], .int .i64 1, .int .i64 0]) := by
  obtain ⟨a', h', hcell⟩ := HR.2.2 (by omega)
  cases h'
  have c00 : w.cell? ad = some (.int .u8 20) := by have := hcell 0 (by omega); rwa [show ad.add 0 = ad from by simp [Addr.add]] at this
  have hb0 := (Below.refl _ w).alloc (Nat.le_refl _) (.cells #[.int .i64 0, .int .i64 0, .slice none 0 0] 24)
  have HN0 := Lib.hid (alloc_new w #[.int .i64 0, .int .i64 0, .slice none 0 0] 24)
  have HB0 := Lib.hid hb0
  have HR0 := Lib.hid (HR.below hb0)
  have hc0a : (w.alloc (.cells #[.int .i64 0, .int .i64 0, .slice none 0 0] 24)).cell? ad = some (.int .u8 20) := pw_cell_below hb0 c00
  have e1 : bits BinOp.and .u8 20 3 = 0 := by decide
  have e2 : bits BinOp.and .u8 5 3 = 1 := by decide
  have hbl : ad.block < w.heap.size := World.block_lt_of_cell? w _ c00
  clear hb0 HR hcell
  go_enter Tryz.func12, Tryz.ntmps12
  go_wp2_with fail
  generalize w.alloc (.cells #[.int .i64 0, .int .i64 0, .slice none 0 0] 24) = w1 at *
  refine (side_b 2 w1 true (by decide)).mono ?_
  rintro e w' ⟨rfl, rfl⟩
  go_wp2_with fail
  refine (side_b 1 w1 true (by decide)).mono ?_
  rintro e w' ⟨rfl, rfl⟩
  go_wp2_with fail
  refine (inner_two ad c w1 HR0.out hc).mono ?_
  rintro e w2 ⟨hB, A2, c2, rfl, hr⟩
  have HN2 := Lib.hid ((Mods.of_below hB []).blk HN0.out (by simp))
  have HB2 := Lib.hid (below_then HB0.out HB0.out.size hB)
  have HR2 := Lib.hid hr
  have c02 := pw_cell_below hB hc0a
  clear hB hr
  go_wp2_with fail
  refine (backA_good 2 1 1 A2 2 c2 [5, 2] w2 HR2.out (by simp) (by omega) (by omega) (by omega) (by decide) (by omega)).mono ?_
  rintro e w3 ⟨hB, A3, c3, rfl, _⟩
  have HN3 := Lib.hid ((Mods.of_below hB []).blk HN2.out (by simp))
  have HB3 := Lib.hid (below_then HB2.out HB2.out.size hB)
  have c03 := pw_cell_below hB c02
  obtain ⟨u0, u1, u2, g0, g1, g2⟩ := box3 HN3.out
  clear hB
  go_upto_region 13 with fail
  have cs : (((w3.setCell ⟨w.heap.size, 0, none⟩ (.int .i64 2)).setCell ⟨w.heap.size, 1, none⟩ (.int .i64 1)).setCell ⟨w.heap.size, 2, none⟩ (.slice A3 2 c3)).cell? ad = some (.int .u8 20) :=
    (World.cell?_setCell_far _ _ _ _ (by dsimp only; omega)).trans ((World.cell?_setCell_far _ _ _ _ (by dsimp only; omega)).trans ((World.cell?_setCell_far _ _ _ _ (by dsimp only; omega)).trans c03))
  go_region
  all_goals
    go_wp2_with fail
    refine bodyPost_ret (results_box2 rfl _ _ _ _ _ _ _ rfl (blk_set3 HN3.out _ _ _) Tryz.underlying24 rfl size_plane) rfl ?_
    exact ⟨by first | exact (below_box HB3.out (Nat.le_refl _) _ _ _).drew | exact below_box HB3.out (Nat.le_refl _) _ _ _, A3, c3, rfl⟩

set_option maxRecDepth 100000 in
set_option maxHeartbeats 4000000 in
theorem answers26 (w : World) : Calls Tryz.prog 5 #[] w fun e w' => e = .returned (.bool true) ∧ Below w.heap.size w w' := by
  have hb0 := (Below.refl _ w).alloc (Nat.le_refl _) (.cells #[.int .u8 5, .int .u8 7] 5)
  have hn0 := alloc_new w #[.int .u8 5, .int .u8 7] 5
  have HR0 := Lib.hid (show ReadsInt (w.alloc (.cells #[.int .u8 5, .int .u8 7] 5)) .u8 (some ⟨w.heap.size, 0, none⟩) 2 [5, 7] from ⟨rfl, by decide, fun _ => ⟨_, rfl, fun j hj => by
    have : j = 0 ∨ j = 1 := by omega
    rcases this with rfl | rfl
    · exact cell_blk hn0 0
    · have := cell_blk hn0 1
      exact this⟩⟩)
  have HB0 := Lib.hid hb0
  clear hb0 hn0
  go_enter Tryz.func5, Tryz.ntmps5
  go_wp2_with fail
  refine (encode_two ⟨w.heap.size, 0, none⟩ _ HR0.out).mono ?_
  rintro e w1 ⟨hB, A2, c2, rfl, hc2, hr⟩
  have HB1 := Lib.hid (below_then HB0.out HB0.out.size hB)
  have HR1 := Lib.hid hr
  clear hB hr
  go_wp2_with fail
  refine (decode_two A2 c2 w1 HR1.out hc2).mono ?_
  rintro e w2 ⟨hB, A3, c3, rfl⟩
  have HB2 := Lib.hid (below_then HB1.out HB1.out.size hB)
  obtain ⟨a', h', hcell⟩ := (HR1.out.below hB).2.2 (by omega)
  cases h'
  have d0 := hcell 0 (by omega)
  rw [show A2.add 0 = A2 from by simp [Addr.add]] at d0
  have d0 : w2.cell? A2 = some (.int .u8 20) := d0
  have d2 : w2.cell? (A2.add 2) = some (.int .u8 2) := hcell 2 (by omega)
  have a0 : ∀ o, (w2.alloc o).cell? A2 = some (.int .u8 20) := fun o => pw_cell_below ((Below.refl _ w2).alloc (Nat.le_refl _) o) d0
  have a2 : ∀ o, (w2.alloc o).cell? (A2.add 2) = some (.int .u8 2) := fun o => pw_cell_below ((Below.refl _ w2).alloc (Nat.le_refl _) o) d2
  have a3 : ∀ o, (w2.alloc o).cell? ⟨A2.block, A2.off + 2, none⟩ = some (.int .u8 2) := a2
  clear hB hcell
  go_wp2_with fail
  go_ret
  exact ⟨rfl, HB2.out.alloc HB2.out.size _⟩
end Go.Proofs.YtodpognmkbjlmaaGreatDoor
