/- The law GroupNothing: the lengths of five, the answers. -/
import Derived.Test.YtfeloicmkcfinaaDoorGrp5
import Derived.Test.YtfeloicmkcfinaaDoorOneT
namespace Go.Proofs.YtfeloicmkcfinaaDoor
open Go.RowKit
open Go.Proofs.YtfeloicmkcfinaaDoorW.PrintWords
open Srt

set_option maxHeartbeats 1000000 in
theorem refSizes_in (c : Nat) (w : World) (hc : c ≤ 11) : Calls Tryd.prog 15 #[.int .i64 c] w fun e w' => e = .returned (.agg (szA c)) ∧ Below w.heap.size w w' := by
  by_cases h0 : c = 0
  · subst h0
    go_enter Tryd.func15, Tryd.ntmps15
    go_wp2_with fail
    refine bodyPost_ret (results_oneK rfl _ _ _ _ _ _ _ rfl ((Below.heap_alloc _ _ _ (by simp)).trans (alloc_new _ _ _)) Tryd.underlying50 rfl size_sizes) rfl ?_
    exact ⟨rfl, ((Below.refl _ _).alloc (Nat.le_refl _) _).alloc (by simp) _⟩
  · have hcs : c = 1 ∨ c = 2 ∨ c = 3 ∨ c = 4 ∨ c = 5 ∨ c = 6 ∨ c = 7 ∨ c = 8 ∨ c = 9 ∨ c = 10 ∨ c = 11 := by omega
    clear hc h0
    rcases hcs with rfl | rfl | rfl | rfl | rfl | rfl | rfl | rfl | rfl | rfl | rfl
    all_goals
      go_enter Tryd.func15, Tryd.ntmps15
      go_wp2_with fail
      refine bodyPost_ret (results_oneK rfl _ _ _ _ _ _ _ rfl (show _ = _ from (Below.heap_alloc _ _ _ (by simp)).trans (alloc_new _ _ _)) Tryd.underlying50 rfl size_sizes) rfl ?_
      exact ⟨rfl, ((Below.refl _ _).alloc (Nat.le_refl _) _).alloc (by simp) _⟩

/-- One symbol alone has a length. -/
def oneH (c : Nat) (T : Nat → Nat) (k : Nat) : List Int := (List.replicate (szN c k) 0).set (T k) 1
def atV (T : Nat → Nat) : Array Value := #[.int .u16 (T 0), .int .u16 (T 1), .int .u16 (T 2), .int .u16 (T 3), .int .u16 (T 4)]
theorem atV_get (T : Nat → Nat) (j : Nat) (hj : j < 5) : (atV T)[j]? = some (.int .u16 (T j)) := by
  have hks : j = 0 ∨ j = 1 ∨ j = 2 ∨ j = 3 ∨ j = 4 := by omega
  rcases hks with rfl | rfl | rfl | rfl | rfl <;> rfl
theorem szA_get (c j : Nat) (hj : j < 5) : (szA c)[j]? = some (.int .i64 (szN c j)) := by
  have hks : j = 0 ∨ j = 1 ∨ j = 2 ∨ j = 3 ∨ j = 4 := by omega
  rcases hks with rfl | rfl | rfl | rfl | rfl <;> rfl
theorem size_five : (Tryd.prog.info? 27).map (·.size) = some 5 := by kernel_rfl

set_option maxRecDepth 100000 in
set_option maxHeartbeats 8000000 in
theorem five_one (c : Nat) (T : Nat → Nat) (w : World) (hc : c ≤ 11) (hT : ∀ k, k < 5 → T k < szN c k) :
    Calls Tryd.prog 5 #[.int .i64 c, .agg #[.int .u16 (T 0), .int .u16 (T 1), .int .u16 (T 2), .int .u16 (T 3), .int .u16 (T 4)], .bool false] w fun e w' => Below w.heap.size w w' ∧ ∃ D, w.heap.size ≤ D ∧ e = .returned (.agg (outs D c 5)) ∧ ∀ k, k < 5 → BlkI w' (D + k) (oneH c T k) := by
  have HT := Lib.hid hT
  clear hT
  go_enter Tryd.func5, Tryd.ntmps5
  go_wp2_with fail
  rw [show (#[Value.slice none 0 0, .slice none 0 0, .slice none 0 0, .slice none 0 0, .slice none 0 0] : Array Value) = nils from rfl]
  have hm0 : Mods [] w (((w.alloc (.cells (atV T) 31)).alloc (.cells nils 27)).alloc (.cells nils 27)) := (((Mods.refl [] w).alloc _).alloc _).alloc _
  have HM0 := Lib.hid hm0
  have ha0 : (((w.alloc (.cells (atV T) 31)).alloc (.cells nils 27)).alloc (.cells nils 27)).heap[w.heap.size]? = some (.cells (atV T) 31 (0, 0)) := (Below.heap_alloc _ _ _ (by simp; omega)).trans ((Below.heap_alloc _ _ _ (by simp)).trans (alloc_new _ _ _))
  have hr0 : (((w.alloc (.cells (atV T) 31)).alloc (.cells nils 27)).alloc (.cells nils 27)).heap[w.heap.size + 1]? = some (.cells nils 27 (0, 0)) := by
    have h := alloc_new (w.alloc (.cells (atV T) 31)) nils 27
    rw [show (w.alloc (.cells (atV T) 31)).heap.size = w.heap.size + 1 from by simp] at h
    exact (Below.heap_alloc _ _ _ (by simp)).trans h
  have hf0 : (((w.alloc (.cells (atV T) 31)).alloc (.cells nils 27)).alloc (.cells nils 27)).heap[w.heap.size + 1 + 1]? = some (.cells nils 27 (0, 0)) := by
    have h := alloc_new ((w.alloc (.cells (atV T) 31)).alloc (.cells nils 27)) nils 27
    rw [show ((w.alloc (.cells (atV T) 31)).alloc (.cells nils 27)).heap.size = w.heap.size + 1 + 1 from by simp] at h
    exact h
  have hs0 : (((w.alloc (.cells (atV T) 31)).alloc (.cells nils 27)).alloc (.cells nils 27)).heap.size = w.heap.size + 3 := by simp
  have HA0 := Lib.hid ha0; have HR0 := Lib.hid hr0; have HF0 := Lib.hid hf0
  clear hm0 ha0 hr0 hf0
  rw [show (#[Value.int .u16 (T 0), .int .u16 (T 1), .int .u16 (T 2), .int .u16 (T 3), .int .u16 (T 4)] : Array Value) = atV T from rfl]
  generalize hw0 : ((w.alloc (.cells (atV T) 31)).alloc (.cells nils 27)).alloc (.cells nils 27) = w0 at *
  clear hw0
  refine (refSizes_in c _ hc).mono ?_
  rintro e w1 ⟨rfl, hB⟩
  have HSA : Hid (szA c = #[.int .i64 (greenN c), .int .i64 256, .int .i64 256, .int .i64 256, .int .i64 40]) := Lib.hid rfl
  rw [HSA.out]
  have hmb := (Mods.of_below hB []).alloc (.cells #[.int .i64 (greenN c), .int .i64 256, .int .i64 256, .int .i64 256, .int .i64 40] 50)
  have hz1 : w.heap.size + 3 ≤ w1.heap.size := by have := hB.size; omega
  have HA1 := Lib.hid (hmb.blk HA0.out (by simp)); have HR1 := Lib.hid (hmb.blk HR0.out (by simp)); have HF1 := Lib.hid (hmb.blk HF0.out (by simp)); have HM1 := Lib.hid (HM0.out.trans hmb)
  have HS1 := Lib.hid (show (w1.alloc (.cells #[.int .i64 (greenN c), .int .i64 256, .int .i64 256, .int .i64 256, .int .i64 40] 50)).heap[w1.heap.size]? = some (.cells (szA c) 50 (0, 0)) from alloc_new _ _ _)
  have hsz1 : (w1.alloc (.cells #[.int .i64 (greenN c), .int .i64 256, .int .i64 256, .int .i64 256, .int .i64 40] 50)).heap.size = w1.heap.size + 1 := by simp
  clear hB hmb
  go_wp2_with fail
  generalize w1.alloc (.cells #[.int .i64 (greenN c), .int .i64 256, .int .i64 256, .int .i64 256, .int .i64 40] 50) = w2 at *
  generalize w1.heap.size = Z at *
  obtain ⟨D, hD⟩ : ∃ D, Z + 1 = D := ⟨_, rfl⟩
  rw [hD] at hsz1
  have HDD := Lib.hid hsz1
  clear hsz1
  go_loopw [9, 10] (fun i _ wr => ∃ k : Nat, k ≤ 5 ∧ i = .int .i64 k ∧ Hid (wr.heap.size = D + k) ∧ Hid (wr.heap[w.heap.size]? = some (.cells (atV T) 31 (0, 0))) ∧ Hid (wr.heap[w.heap.size + 1]? = some (.cells nils 27 (0, 0))) ∧ Hid (wr.heap[w.heap.size + 1 + 1]? = some (.cells (outs D c k) 27 (0, 0))) ∧ Hid (wr.heap[Z]? = some (.cells (szA c) 50 (0, 0))) ∧ Hid (∀ j, j < k → BlkI wr (D + j) (oneH c T j)) ∧ Hid (Mods [] w wr)) (fun i _ _ => 5 - (intOf i).toNat)
  case atStart => exact ⟨0, by omega, rfl, by rw [Nat.add_zero]; exact HDD, HA1, HR1, HF1, HS1, Lib.hid (fun j hj => by omega), HM1⟩
  case round =>
    clear HA1 HR1 HF1 HS1 HM1 HDD
    obtain ⟨k, hk, rfl, HZ, HA, HR, HF, HS, HL, HM⟩ := hrel
    by_cases hlt : k < 5
    · have hsz := szN_le hc k
      have htk := HT.out k hlt
      obtain ⟨N, hN⟩ : ∃ N, szN c k = N := ⟨_, rfl⟩
      obtain ⟨t, ht⟩ : ∃ t, T k = t := ⟨_, rfl⟩
      rw [hN] at hsz htk
      rw [ht] at htk
      have cS : wr.cell? ⟨Z, k, none⟩ = some (.int .i64 N) := by rw [cell_blk HS.out, szA_get c k hlt, hN]
      have hmk := print_make (P := Tryd.prog) 25 3 .i64 8 Tryd.underlying25 info_int (by decide) N (by omega)
      have hcell : ∀ o, (wr.alloc o).cell? ⟨w.heap.size + 1 + 1, k, none⟩ = some (op D c k k) := fun o => by rw [cell_blk ((Mods.alloc (Mods.refl [] wr) o).blk HF.out (by simp))]; exact outs_get D c k k hlt
      have hfr : ∀ o, (wr.alloc o).frozen? ⟨w.heap.size + 1 + 1, k, none⟩ = false := fun o => free_blk ((Mods.alloc (Mods.refl [] wr) o).blk HF.out (by simp)) k
      have k1 : decide ((k : Int) < 5) = true := decide_eq_true (by omega)
      have k2 : (k : Int) < 5 := by omega
      have HN9 := Lib.hid hN; have HT9 := Lib.hid ht
      clear hN ht
      go_wp2_with fail
      obtain ⟨wa, hwa⟩ : ∃ wa, wr.alloc (.cells (madeCells #[.int .i64 0] N) 3) = wa := ⟨_, rfl⟩
      have ha : Mods [] wr wa := by rw [← hwa]; exact (Mods.refl [] wr).alloc _
      have hb : BlkI wa (D + k) (List.replicate N 0) := by
        unfold BlkI; rw [← hwa, ← made_blk, ← HZ.out]; exact alloc_new _ _ _
      have hs : wa.heap.size = D + k + 1 := by rw [← hwa]; simp; exact HZ.out
      rw [hwa, HZ.out]
      have hmx : Mods [w.heap.size + 1 + 1] wa (wa.setCell ⟨w.heap.size + 1 + 1, k, none⟩ (.slice (some ⟨D + k, 0, none⟩) N N)) := (Mods.refl _ wa).setCell (p := ⟨w.heap.size + 1 + 1, k, none⟩) (.inl (by simp)) _
      have g0 : (wa.setCell ⟨w.heap.size + 1 + 1, k, none⟩ (.slice (some ⟨D + k, 0, none⟩) N N)).heap.size = D + k + 1 := by rw [← hs]; simp
      have G1 := Lib.hid (hmx.blk (ha.blk HA.out (by simp)) (by simp; omega))
      have G2 := Lib.hid (hmx.blk (ha.blk HR.out (by simp)) (by simp))
      have G3 : Hid ((wa.setCell ⟨w.heap.size + 1 + 1, k, none⟩ (.slice (some ⟨D + k, 0, none⟩) N N)).heap[w.heap.size + 1 + 1]? = some (.cells (outs D c (k + 1)) 27 (0, 0))) := Lib.hid (by
        rw [← outs_set D c k hlt, HN9.out]; exact blk_set (ha.blk HF.out (by simp)) k _)
      have G4 := Lib.hid (hmx.blk (ha.blk HS.out (by simp)) (by simp; omega))
      have G5 : Hid (∀ j, j < k → BlkI (wa.setCell ⟨w.heap.size + 1 + 1, k, none⟩ (.slice (some ⟨D + k, 0, none⟩) N N)) (D + j) (oneH c T j)) := Lib.hid (fun j hj => (BlkI.mods (HL.out j hj) ha (by simp)).mods hmx (by simp; omega))
      have G6 : Hid (BlkI (wa.setCell ⟨w.heap.size + 1 + 1, k, none⟩ (.slice (some ⟨D + k, 0, none⟩) N N)) (D + k) (List.replicate N 0)) := Lib.hid (hb.mods hmx (by simp; omega))
      have G7 : Hid (Mods [] w (wa.setCell ⟨w.heap.size + 1 + 1, k, none⟩ (.slice (some ⟨D + k, 0, none⟩) N N))) := Lib.hid ((HM.out.trans ha).trans_new hmx (by simp; omega))
      clear HZ HA HR HF HS HL HM hcell hfr cS hmk ha hb hs hmx hwa
      generalize wa.setCell ⟨w.heap.size + 1 + 1, k, none⟩ (.slice (some ⟨D + k, 0, none⟩) N N) = wb at *
      have cA : wb.cell? ⟨w.heap.size, k, none⟩ = some (.int .u16 t) := by rw [cell_blk G1.out, atV_get T k hlt, HT9.out]
      have cS : wb.cell? ⟨Z, k, none⟩ = some (.int .i64 N) := by rw [cell_blk G4.out, szA_get c k hlt, HN9.out]
      have cF : wb.cell? ⟨w.heap.size + 1 + 1, k, none⟩ = some (.slice (some ⟨D + k, 0, none⟩) N N) := by
        rw [cell_blk G3.out, outs_get D c (k + 1) k hlt]; unfold op; rw [if_pos (by omega), HN9.out]
      have cD : wb.cell? ⟨D + k, t, none⟩ = some (.int .i64 0) := by
        rw [G6.out.at t (by simp; omega)]; simp [rd, List.getD_eq_getElem?_getD, htk]
      have fD : wb.frozen? ⟨D + k, t, none⟩ = false := free_blk G6.out t
      have e1 : wrap64 (t : Int) = (t : Int) := w64 _ (by omega) (by omega)
      have e2 : IntKind.i64.wrap (t : Int) = (t : Int) := IntWalk.i64_in _ (by omega)
      have e3 : (t : Int) % (N : Int) = (t : Int) := Int.emod_eq_of_lt (by omega) (by omega)
      have e4 : ¬ N = 0 := by omega
      have e5 : (t : Int).tmod (N : Int) = (t : Int) := by rw [Int.tmod_eq_emod_of_nonneg (by omega)]; exact e3
      have e6 : ((N : Int) == 0) = false := beq_eq_false_iff_ne.2 (by omega)
      have e7 : (t : Int) < (N : Int) := by omega
      go_wp2_with fail
      go_quiet (fail)
      go_wp2_with fail
      have hmx : Mods [D + k] wb ((wb.drewN nq).setCell ⟨D + k, t, none⟩ (.int .i64 1)) := ((Mods.refl [D + k] wb).drewN _).setCell (p := ⟨D + k, t, none⟩) (.inl (by simp)) _
      have f0 : Hid (((wb.drewN nq).setCell ⟨D + k, t, none⟩ (.int .i64 1)).heap.size = D + (k + 1)) := Lib.hid (by
        have h : ((wb.drewN nq).setCell ⟨D + k, t, none⟩ (.int .i64 1)).heap.size = wb.heap.size := by simp
        rw [h, g0]; omega)
      have f1 := Lib.hid (hmx.blk G1.out (by simp; omega)); have f2 := Lib.hid (hmx.blk G2.out (by simp; omega)); have f3 := Lib.hid (hmx.blk G3.out (by simp; omega)); have f4 := Lib.hid (hmx.blk G4.out (by simp; omega))
      have f5 : Hid (∀ j, j < k + 1 → BlkI ((wb.drewN nq).setCell ⟨D + k, t, none⟩ (.int .i64 1)) (D + j) (oneH c T j)) := Lib.hid (fun j hj => by
        by_cases e : j = k
        · subst e
          have h1 : BlkI (wb.drewN nq) (D + j) (List.replicate N 0) := G6.out.mods ((Mods.refl [] wb).drewN _) (by simp)
          have h2 := h1.set t 1
          unfold oneH; rw [HN9.out, HT9.out]; exact h2
        · exact (G5.out j (by omega)).mods hmx (by simp; omega))
      have f6 := Lib.hid (G7.out.trans_new hmx (by simp; omega))
      exact ⟨⟨k + 1, by omega, by go_num, f0, f1, f2, f3, f4, f5, f6⟩, by simp [intOf]; omega⟩
    · obtain rfl : k = 5 := by omega
      obtain ⟨y0, y1, y2, y3, y4⟩ := box5 (show wr.heap[w.heap.size + 1 + 1]? = some (.cells #[.slice (some ⟨D + 0, 0, none⟩) (szN c 0) (szN c 0), .slice (some ⟨D + 1, 0, none⟩) (szN c 1) (szN c 1), .slice (some ⟨D + 2, 0, none⟩) (szN c 2) (szN c 2), .slice (some ⟨D + 3, 0, none⟩) (szN c 3) (szN c 3), .slice (some ⟨D + 4, 0, none⟩) (szN c 4) (szN c 4)] 27 (0, 0)) from HF.out)
      obtain ⟨x0, x1, x2, x3, x4⟩ := box5 (show wr.heap[w.heap.size + 1]? = some (.cells #[.slice none 0 0, .slice none 0 0, .slice none 0 0, .slice none 0 0, .slice none 0 0] 27 (0, 0)) from HR.out)
      obtain ⟨z0, z1, z2, z3, z4⟩ := box5f (show wr.heap[w.heap.size + 1]? = some (.cells #[.slice none 0 0, .slice none 0 0, .slice none 0 0, .slice none 0 0, .slice none 0 0] 27 (0, 0)) from HR.out)
      go_wp2_with fail
      have hb := blk_set5 (show wr.heap[w.heap.size + 1]? = some (.cells #[.slice none 0 0, .slice none 0 0, .slice none 0 0, .slice none 0 0, .slice none 0 0] 27 (0, 0)) from HR.out) (.slice (some ⟨D, 0, none⟩) (szN c 0) (szN c 0)) (.slice (some ⟨D + 1, 0, none⟩) (szN c 1) (szN c 1)) (.slice (some ⟨D + 2, 0, none⟩) (szN c 2) (szN c 2)) (.slice (some ⟨D + 3, 0, none⟩) (szN c 3) (szN c 3)) (.slice (some ⟨D + 4, 0, none⟩) (szN c 4) (szN c 4))
      have hm5 := mods_set5 (w.heap.size + 1) wr (.slice (some ⟨D, 0, none⟩) (szN c 0) (szN c 0)) (.slice (some ⟨D + 1, 0, none⟩) (szN c 1) (szN c 1)) (.slice (some ⟨D + 2, 0, none⟩) (szN c 2) (szN c 2)) (.slice (some ⟨D + 3, 0, none⟩) (szN c 3) (szN c 3)) (.slice (some ⟨D + 4, 0, none⟩) (szN c 4) (szN c 4))
      refine bodyPost_ret (results_oneK rfl _ _ _ _ _ _ _ rfl hb Tryd.underlying27 rfl size_five) rfl ?_
      refine ⟨(HM.out.trans_new hm5 (by simp)).below, D, by omega, rfl, fun q hq => (HL.out q hq).mods hm5 (by simp; omega)⟩

theorem reads_tok (w : World) (p : Nat) : ReadsK (w.alloc (.cells #[.int .i64 1, .int .i64 0, .int .i64 0, .int .i64 0, .int .u32 p] 39)) w.heap.size ([p].map fun (q : Nat) => lit (q : Int)) := by
  intro j u h
  rw [cell_blk (alloc_new _ _ _)]
  have e : tks ([p].map fun (q : Nat) => lit (q : Int)) = [.int .i64 1, .int .i64 0, .int .i64 0, .int .i64 0, .int .u32 p] := rfl
  rw [e] at h
  simpa using h
set_option maxRecDepth 100000 in
set_option maxHeartbeats 4000000 in
theorem answers18 (w : World) : Calls Tryd.prog 4 #[] w fun e w' => e = .returned (.bool true) ∧ Below w.heap.size w w' := by
  have HB0 := Lib.hid ((Below.refl _ w).alloc (Nat.le_refl _) (.cells #[.int .i64 1, .int .i64 0, .int .i64 0, .int .i64 0, .int .u32 16909060] 39))
  have HT0 := Lib.hid (reads_tok w 16909060)
  have hix : ∀ W, (Instr.index 50 (.agg #[.int .i64 282, .int .i64 256, .int .i64 256, .int .i64 256, .int .i64 40]) (.int .i64 0)).run Tryd.prog W = .ok (.int .i64 282) W := fun W => by simp [Instr.index, run_underlying Tryd.underlying50, asIntOf, go_sem]
  go_enter Tryd.func4, Tryd.ntmps4
  go_wp2_with fail
  have HC := Lib.hid (count_lit w.heap.size 1 5 0 [16909060] (w.alloc (.cells #[.int .i64 1, .int .i64 0, .int .i64 0, .int .i64 0, .int .u32 16909060] 39)) HT0.out (by simp) (by omega) (by omega) (by simp) (by simp))
  refine HC.out.mono ?_
  rintro e w1 ⟨hB, D, hD, rfl, hL⟩
  have HB1 := Lib.hid (below_then HB0.out HB0.out.size hB)
  have hz1 := HB1.out.size
  have HO : Hid (outs D 0 5 = #[.slice (some ⟨D + 0, 0, none⟩) 280 280, .slice (some ⟨D + 1, 0, none⟩) 256 256, .slice (some ⟨D + 2, 0, none⟩) 256 256, .slice (some ⟨D + 3, 0, none⟩) 256 256, .slice (some ⟨D + 4, 0, none⟩) 40 40]) := Lib.hid rfl
  rw [HO.out]
  have c0 : w1.cell? ⟨D + 0, 3, none⟩ = some (.int .i64 1) := by
    have h := (hL 0 (by omega)).at 3 (by rw [histL_length]; decide)
    rw [histL_get 0 _ 0 3 (by omega) (by decide)] at h; exact h
  have c3 : w1.cell? ⟨D + 3, 1, none⟩ = some (.int .i64 1) := by
    have h := (hL 3 (by omega)).at 1 (by rw [histL_length]; decide)
    rw [histL_get 0 _ 3 1 (by omega) (by decide)] at h; exact h
  have a0 : ∀ o, (w1.alloc o).cell? ⟨D + 0, 3, none⟩ = some (.int .i64 1) := fun o => Mods.cell ((Mods.refl [] w1).alloc o) c0 (by simp)
  have a3 : ∀ o, (w1.alloc o).cell? ⟨D + 3, 1, none⟩ = some (.int .i64 1) := fun o => Mods.cell ((Mods.refl [] w1).alloc o) c3 (by simp)
  have b0 : ∀ o, (w1.alloc o).cell? ⟨D, 3, none⟩ = some (.int .i64 1) := a0
  have HB2 := Lib.hid (HB1.out.alloc hz1 (.cells #[.slice (some ⟨D + 0, 0, none⟩) 280 280, .slice (some ⟨D + 1, 0, none⟩) 256 256, .slice (some ⟨D + 2, 0, none⟩) 256 256, .slice (some ⟨D + 3, 0, none⟩) 256 256, .slice (some ⟨D + 4, 0, none⟩) 40 40] 26))
  clear hB hL c0 c3
  go_wp2_with fail
  refine (sizes_in 1 _ (by omega)).mono ?_
  rintro e w2 ⟨rfl, hB⟩
  have HB3 := Lib.hid (below_then HB2.out HB2.out.size hB)
  clear hB
  have HSA : Hid (szA 1 = #[.int .i64 282, .int .i64 256, .int .i64 256, .int .i64 256, .int .i64 40]) := Lib.hid rfl
  rw [HSA.out]
  go_wp2_with fail
  go_ret
  exact ⟨rfl, HB3.out⟩
end Go.Proofs.YtfeloicmkcfinaaDoor
