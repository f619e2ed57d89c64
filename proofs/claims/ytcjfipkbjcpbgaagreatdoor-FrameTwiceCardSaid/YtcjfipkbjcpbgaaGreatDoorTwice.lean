/- What frame.Stream does where green is told twice; the law FrameTwice. -/
import Derived.Test.YtcjfipkbjcpbgaaGreatDoorHead
import Derived.Handy
namespace Go.Proofs.YtcjfipkbjcpbgaaGreatDoor
open Go.RowKit
open Go.Proofs.YtcjfipkbjcpbgaaGreatDoorW.PrintWords

def inCells (g : Nat) (s : Bool) (tv : Value) : Array Value := #[.pointer (some ⟨g, 0, none⟩), .int .i64 1, .int .i64 1, .bool false, .bool false, .bool s, .bool false, tv]
abbrev greenV : Value := .func (.func 57) #[] #[]
theorem info_turn : (Tryz.prog.info? 47).map (fun i => (i.zero, i.size, i.bytes)) = some (some .nilFunc, 1, 8) := by kernel_rfl

set_option maxHeartbeats 400000 in
theorem one_first (I g : Nat) (tv : Value) (w : World) (h : w.heap[I]? = some (.cells (inCells g false tv) 42 (0, 0))) :
    Calls Tryz.prog 14 #[.pointer (some ⟨I, 0, none⟩), .int .u32 2] w fun e w' => e = .returned (.tuple #[greenV, .int .i64 0]) ∧ w' = w.setCell ⟨I, 5, none⟩ (.bool true) := by
  have hc := cell_blk h 5; have hf := free_blk h 5
  have hc' : w.cell? ⟨I, 5, none⟩ = some (.bool false) := by rw [hc]; rfl
  clear hc h
  go_enter Tryz.func14, Tryz.ntmps14
  go_wp2
  go_ret2
  exact ⟨rfl, rfl⟩
set_option maxHeartbeats 400000 in
theorem one_again (I g : Nat) (tv : Value) (w : World) (h : w.heap[I]? = some (.cells (inCells g true tv) 42 (0, 0))) :
    Calls Tryz.prog 14 #[.pointer (some ⟨I, 0, none⟩), .int .u32 2] w fun e w' => e = .returned (.tuple #[.nilFunc, .int .i64 3]) ∧ w = w' := by
  have hc := cell_blk h 5; have hf := free_blk h 5
  have hc' : w.cell? ⟨I, 5, none⟩ = some (.bool true) := by rw [hc]; rfl
  clear hc h
  go_enter Tryz.func14, Tryz.ntmps14
  go_wp2
  go_ret2
  exact ⟨rfl, rfl⟩

set_option maxHeartbeats 1000000 in
theorem all_twice (I g : Nat) (A : Option Addr) (bs : List Int) (w : World) (hI : w.heap[I]? = some (.cells (inCells g false (.slice none 0 0)) 42 (0, 0))) (hR : Rdr w g A bs 0 false) (hne : I ≠ g) (hA : ∀ ad, A = some ad → ad.block ≠ I ∧ ad.block ≠ g)
    (h1 : bitsVal bs 0 1 = 1) (h2 : bitsVal bs 1 2 = 2) (h3 : bitsVal bs 3 1 = 1) (h4 : bitsVal bs 4 2 = 2) (hl : 1 ≤ bs.length) :
    Calls Tryz.prog 10 #[.pointer (some ⟨I, 0, none⟩)] w fun e w' => e = .returned (.int .i64 3) ∧ Mods [I, g] w w' := by
  have H1 := Lib.hid h1; have H2 := Lib.hid h2; have H3 := Lib.hid h3; have H4 := Lib.hid h4; have HA := Lib.hid hA; have HR := Lib.hid hR; have HI := Lib.hid hI; have HNE := Lib.hid hne
  have cg : ∀ (W : World) (s : Bool) (tv : Value), W.heap[I]? = some (.cells (inCells g s tv) 42 (0, 0)) → W.cell? ⟨I, 0, none⟩ = some (.pointer (some ⟨g, 0, none⟩)) ∧ W.cell? ⟨I, 7, none⟩ = some tv ∧ W.frozen? ⟨I, 0, none⟩ = false ∧ W.frozen? ⟨I, 7, none⟩ = false :=
    fun W s tv h => ⟨by rw [cell_blk h]; rfl, by rw [cell_blk h]; rfl, free_blk h _, free_blk h _⟩
  have CG := Lib.hid cg
  obtain ⟨q0, q1, q2, q3⟩ := cg _ _ _ hI
  clear h1 h2 h3 h4 hA hR hI hne cg
  go_enter Tryz.func10, Tryz.ntmps10
  go_wp2_with fail
  refine wp_loop_rounds 2 ?_
  rw [rounds_succ]
  go_wp2_with fail
  refine (bits_to 1 g A bs 0 1 w H1 (by omega) (by omega) (by omega) HR.out).mono ?_
  rintro e w1 ⟨rfl, hR, hM⟩
  have HI1 := Lib.hid (hM.blk HI.out (by simpa using HNE.out)); have HR1 := Lib.hid hR; have HM1 := Lib.hid (hM.mono (R := [I, g]) (by simp))
  obtain ⟨r0, r1, r2, r3⟩ := CG.out _ _ _ HI1.out
  clear hR hM q0 q1 q2 q3
  go_wp2_with fail
  refine (bits_to 2 g A bs (0 + 1) 2 w1 H2 (by omega) (by omega) (by omega) HR1.out).mono ?_
  rintro e w2 ⟨rfl, hR, hM⟩
  have HI2 := Lib.hid (hM.blk HI1.out (by simpa using HNE.out)); have HR2 := Lib.hid hR; have HM2 := Lib.hid (HM1.out.trans (hM.mono (R := [I, g]) (by simp)))
  clear hR hM r0 r1 r2 r3
  go_wp2_with fail
  refine (one_first I g (.slice none 0 0) w2 HI2.out).mono ?_
  rintro e w3 ⟨rfl, hw3⟩
  have HI3 := Lib.hid (show w3.heap[I]? = some (.cells (inCells g true (.slice none 0 0)) 42 (0, 0)) from by rw [hw3, blk_set HI2.out]; rfl)
  have hM3 : Mods [I] w2 w3 := by rw [hw3]; exact (Mods.refl _ _).setCell (by simp) _
  have HM3 := Lib.hid (HM2.out.trans (hM3.mono (by simp)))
  have HR3 := Lib.hid (HR2.out.mods hM3 (by simpa using HNE.out.symm) (fun ad h => by simpa using (HA.out ad h).1))
  obtain ⟨q0, q1, q2, q3⟩ := CG.out _ _ _ HI3.out
  clear hw3 hM3
  go_wp2_with (at_builtin; refine print_append w3.heap.size rfl _ _ 40 47 .nilFunc 8 rfl Tryz.underlying40 info_turn (by decide) (by decide) (.slice none 0 0) [] greenV rfl rfl rfl (own_nil _ _ _ _) (Below.refl _ _) (Nat.le_refl _) (by decide) ?_; intro v1 w4 hown hB _ _; obtain ⟨A1, c1, rfl, _⟩ := own_slice hown; have HI4 := Lib.hid ((Mods.of_below hB []).blk HI3.out (by simp)); have HR4 := Lib.hid (HR3.out.mods (Mods.of_below hB []) (by simp) (by simp)); have HM4 := Lib.hid (HM3.out.trans (Mods.of_below hB _)); obtain ⟨r0, r1, r2, r3⟩ := CG.out _ _ _ HI4.out; clear hown hB q0 q1 q2 q3)
  have HI5 := Lib.hid (show (w4.setCell ⟨I, 7, none⟩ (.slice A1 1 c1)).heap[I]? = some (.cells (inCells g true (.slice A1 1 c1)) 42 (0, 0)) from by rw [blk_set HI4.out]; rfl)
  have hM5 : Mods [I] w4 (w4.setCell ⟨I, 7, none⟩ (.slice A1 1 c1)) := (Mods.refl _ _).setCell (by simp) _
  have HM5 := Lib.hid (HM4.out.trans (hM5.mono (by simp)))
  have HR5 := Lib.hid (HR4.out.mods hM5 (by simpa using HNE.out.symm) (fun ad h => by simpa using (HA.out ad h).1))
  obtain ⟨w5, hw5⟩ : ∃ w5, w5 = w4.setCell ⟨I, 7, none⟩ (.slice A1 1 c1) := ⟨_, rfl⟩
  rw [rounds_succ]
  have e5 : w4.setCell ⟨I, 7, none⟩ (.slice A1 ([] ++ [greenV]).length c1) = w5 := hw5.symm
  rw [← hw5] at HI5 HM5 HR5
  first | rw [e5] | rw [← hw5]
  clear e5 hw5 hM5 r0 r1 r2 r3
  obtain ⟨r0, r1, r2, r3⟩ := CG.out _ _ _ HI5.out
  go_wp2_with fail
  refine (bits_to 1 g A bs (0 + 1 + 2) 1 w5 H3 (by omega) (by omega) (by omega) HR5.out).mono ?_
  rintro e w6 ⟨rfl, hR, hM⟩
  have HI6 := Lib.hid (hM.blk HI5.out (by simpa using HNE.out)); have HR6 := Lib.hid hR; have HM6 := Lib.hid (HM5.out.trans (hM.mono (R := [I, g]) (by simp)))
  clear hR hM r0 r1 r2 r3
  obtain ⟨r0, r1, r2, r3⟩ := CG.out _ _ _ HI6.out
  go_wp2_with fail
  refine (bits_to 2 g A bs (0 + 1 + 2 + 1) 2 w6 H4 (by omega) (by omega) (by omega) HR6.out).mono ?_
  rintro e w7 ⟨rfl, hR, hM⟩
  have HI7 := Lib.hid (hM.blk HI6.out (by simpa using HNE.out)); have HM7 := Lib.hid (HM6.out.trans (hM.mono (R := [I, g]) (by simp)))
  clear hR hM r0 r1 r2 r3
  go_wp2_with fail
  refine (one_again I g _ w7 HI7.out).mono ?_
  rintro e w8 ⟨rfl, rfl⟩
  go_wp2_with fail
  go_ret
  exact ⟨rfl, HM7.out⟩

set_option maxHeartbeats 1000000 in
theorem stream_twice (g : Nat) (A : Option Addr) (bs : List Int) (w : World) (hR : Rdr w g A bs 0 false) (hA : ∀ ad, A = some ad → ad.block < w.heap.size ∧ ad.block ≠ g)
    (h1 : bitsVal bs 0 1 = 1) (h2 : bitsVal bs 1 2 = 2) (h3 : bitsVal bs 3 1 = 1) (h4 : bitsVal bs 4 2 = 2) (hl : 1 ≤ bs.length) :
    Calls Tryz.prog 6 #[.pointer (some ⟨g, 0, none⟩), .int .i64 1, .int .i64 1] w fun e w' => e = .returned (.tuple #[.agg #[.int .i64 0, .int .i64 0, .slice none 0 0], .int .i64 3]) ∧ Mods [g] w w' := by
  have hgl := hR.lt
  have HALL := Lib.hid (fun I W hI hr hne hA => all_twice I g A bs W hI hr hne hA h1 h2 h3 h4 hl)
  have HA := Lib.hid hA; have HR := Lib.hid hR
  clear h1 h2 h3 h4 hA hR
  go_enter Tryz.func6, Tryz.ntmps6
  go_wp2_with fail
  refine (HALL.out (w.heap.size + 1) _ (by have := blk_alloc (w := w.alloc (.cells #[.int .i64 0, .int .i64 0, .slice none 0 0] 26)) (.cells (inCells g false (.slice none 0 0)) 42); rw [World.size_alloc] at this; exact this) (HR.out.mods (S := []) (((Mods.refl _ _).alloc _).alloc _) (by simp) (by simp)) (by omega) (fun ad h => ⟨by have := (HA.out ad h).1; omega, (HA.out ad h).2⟩)).mono ?_
  rintro e w1 ⟨rfl, hM⟩
  have hM0 : Mods [g] w w1 := Mods.trans_new (((Mods.refl [g] w).alloc _).alloc _) hM (by simp)
  have HM0 := Lib.hid hM0
  have hb : w1.heap[w.heap.size]? = some (.cells #[.int .i64 0, .int .i64 0, .slice none 0 0] 26 (0, 0)) := hM.blk (by rw [Below.heap_alloc _ _ _ (by simp)]; exact blk_alloc _) (by simp; omega)
  have c0 : w1.cell? ⟨w.heap.size, 0, none⟩ = some (.int .i64 0) := by rw [cell_blk hb]; rfl
  have c1 : w1.cell? ⟨w.heap.size, 1, none⟩ = some (.int .i64 0) := by rw [cell_blk hb]; rfl
  have c2 : w1.cell? ⟨w.heap.size, 2, none⟩ = some (.slice none 0 0) := by rw [cell_blk hb]; rfl
  have f0 := free_blk hb 0; have f1 := free_blk hb 1; have f2 := free_blk hb 2
  clear hM hM0 hb
  go_wp2_with fail
  refine bodyPost_ret (v := .tuple #[.agg #[.int .i64 0, .int .i64 0, .slice none 0 0], .int .i64 3]) (by simp [results, Tryz.results6, go_sem, c0, c1, c2]) rfl ⟨rfl, ?_⟩
  exact ((HM0.out.setCell (by simp) _).setCell (by simp) _).setCell (by simp) _

theorem bits45 (bs : List Int) : bitsVal (45 :: bs) 0 1 = 1 ∧ bitsVal (45 :: bs) 1 2 = 2 ∧ bitsVal (45 :: bs) 3 1 = 1 ∧ bitsVal (45 :: bs) 4 2 = 2 := by
  refine ⟨?_, ?_, ?_, ?_⟩ <;> (rw [bitsVal_byte _ _ _ (by decide)]; rfl)

set_option maxHeartbeats 1000000 in
theorem law_FrameTwice (A : Option Addr) (n c : Nat) (bs : List Int) (w : World) (HR : ReadsInt w .u8 A n bs) (hb : ∀ x ∈ bs, 0 ≤ x ∧ x ≤ 255) (_hc : n ≤ c) :
    Calls Tryz.prog 3 #[.slice A n c] w fun e w' => e = .returned (.bool true) ∧ Below w.heap.size w w' := by
  have HRR := Lib.hid HR; have HX := Lib.hid hb; have HL := Lib.hid HR.1
  clear HR hb
  by_cases hn : 100 < n
  · go_enter Tryz.func3, Tryz.ntmps3
    go_wp2_with (go_at_call 5; refine (answers21 _).mono ?_; rintro e w1 ⟨rfl, hB⟩)
    go_ret
    exact ⟨rfl, hB⟩
  · have HR1 := Lib.hid (HRR.out.below ((Below.refl _ w).alloc (Nat.le_refl _) (.cells #[.int .u8 45] 5)))
    go_enter Tryz.func3, Tryz.ntmps3
    go_wp2_with (at_builtin; refine print_append_row w.heap.size rfl _ _ 22 5 .u8 1 rfl Tryz.underlying22 info_u8 (by decide) _ [45] bs A n c rfl rfl (own_lit w w.heap.size 5 .u8 [45] (Nat.le_refl _) (by decide)) HR1.out ((Below.refl _ w).alloc (Nat.le_refl _) _) (by simp) ?hl ?_)
    case hl => simp; omega
    intro v1 w1 hown hB hg hat
    obtain ⟨A1, c1, rfl, hr1⟩ := own_reads hown
    have HO := Lib.hid hown; have HB := Lib.hid hB
    have HR2 := Lib.hid (show ReadsInt w1 .u8 A1 (bs.length + 1) (45 :: bs) from hr1)
    clear hown hB hg hat hr1
    go_wp2_with fail
    refine (newReader A1 (bs.length + 1) c1 (45 :: bs) w1 HR2.out (by
      intro x hx
      rcases List.mem_cons.1 hx with rfl | h
      · decide
      · exact HX.out x h) (by have := HL.out; omega)).mono ?_
    rintro e w2 ⟨g, A', rfl, hg, hA', hR, hB⟩
    have hAlt : ∀ ad, A' = some ad → ad.block < w2.heap.size ∧ ad.block ≠ g := fun ad h => ⟨by
      obtain ⟨d, e2, hc⟩ := hR.2.2.2.2.1.2.2 (by simp)
      rw [h] at e2
      cases e2
      exact World.block_lt_of_cell? w2 _ (hc 0 (by simp)), hR.2.2.2.2.2 ad h⟩
    have hg1 : w.heap.size ≤ g := Nat.le_trans HB.out.size hg
    have HB2 := Lib.hid (below_then HB.out HB.out.size hB); have HR3 := Lib.hid hR; have HALT := Lib.hid hAlt
    clear hA' hR hB hAlt hg
    obtain ⟨p1, p2, p3, p4⟩ := bits45 bs
    go_wp2_with fail
    refine (stream_twice g A' (45 :: bs) w2 HR3.out HALT.out p1 p2 p3 p4 (by simp)).mono ?_
    rintro e w3 ⟨rfl, hM⟩
    have HB3 := Lib.hid (Below.then_mods HB2.out HB2.out.size hM (by simpa using hg1))
    clear hM p1 p2 p3 p4
    go_wp2_with fail
    refine (answers21 _).mono ?_
    rintro e w4 ⟨rfl, hB⟩
    have HB4 := Lib.hid (below_then (HB3.out.alloc HB3.out.size _) (by have := HB3.out.size; simp; omega) hB)
    clear hB
    go_wp2_with fail
    go_ret
    exact ⟨rfl, HB4.out⟩
end Go.Proofs.YtcjfipkbjcpbgaaGreatDoor
