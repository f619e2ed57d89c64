/- What package group does: how often each symbol is told, by pixels alone. -/
import Derived.Test.YtfeloicmkcfinaaDoorGrp4
namespace Go.Proofs.YtfeloicmkcfinaaDoor
open Go.RowKit
open Go.Proofs.YtfeloicmkcfinaaDoorW.PrintWords
open Srt

/-- How often symbol s of code k comes in the pixels, of the first n. -/
def hist (ps : List Nat) (k s : Nat) : Nat := ps.countP (fun p => decide (qS p k = s))
def histL (c : Nat) (ps : List Nat) (k : Nat) : List Int := (List.range (szN c k)).map fun s => if k < 4 then (hist ps k s : Int) else 0
theorem histL_length (c : Nat) (ps : List Nat) (k : Nat) : (histL c ps k).length = szN c k := by simp [histL]
theorem histL_nil (c k : Nat) : histL c [] k = List.replicate (szN c k) 0 := by
  unfold histL hist
  apply List.ext_getElem (by simp)
  intro i h1 h2
  simp
theorem histL_get (c : Nat) (ps : List Nat) (k s : Nat) (hk : k < 4) (hs : s < szN c k) : rd (histL c ps k) (s : Int) = (hist ps k s : Int) := by
  unfold rd histL
  rw [Int.toNat_natCast, List.getD_eq_getElem?_getD, List.getElem?_map, List.getElem?_range hs]
  simp [hk]
theorem histL_next (c : Nat) (ps : List Nat) (p k : Nat) (hk : k < 4) (_hs : qS p k < szN c k) : (histL c ps k).set (qS p k) ((hist ps k (qS p k) : Int) + 1) = histL c (ps ++ [p]) k := by
  apply List.ext_getElem (by simp [histL])
  intro i h1 h2
  have hi : i < szN c k := by rw [histL_length] at h2; exact h2
  rw [List.getElem_set]
  by_cases e : qS p k = i
  · subst e
    rw [if_pos rfl]
    simp [histL, hist, hk, List.countP_append]
  · rw [if_neg e]
    simp [histL, hist, hk, List.countP_append, e]
/-- The lists while a pixel's first j codes are counted. -/
def midL (c : Nat) (ps : List Nat) (p j k : Nat) : List Int := if k < j then histL c (ps ++ [p]) k else histL c ps k
theorem histL_dist (c : Nat) (ps qs : List Nat) : histL c ps 4 = histL c qs 4 := by simp [histL]

/-- A block of numbers. -/
def BlkI (w : World) (b : Nat) (l : List Int) : Prop := w.heap[b]? = some (.cells (l.map (Value.int .i64)).toArray 3 (0, 0))
theorem BlkI.mods {S : List Nat} {w w' : World} {b : Nat} {l : List Int} (h : BlkI w b l) (hm : Mods S w w') (hb : b ∉ S) : BlkI w' b l := hm.blk h hb
theorem BlkI.reads {w : World} {b : Nat} {l : List Int} (h : BlkI w b l) (hl : l.length ≤ 9223372036854775807) : ReadsInt w .i64 (some ⟨b, 0, none⟩) l.length l := by
  refine ⟨rfl, hl, fun _ => ⟨_, rfl, fun j hj => ?_⟩⟩
  rw [add_plain]
  show w.cell? ⟨b, j, none⟩ = _
  rw [cell_blk h]
  simp [List.getElem?_eq_getElem hj, List.getD_eq_getElem?_getD]
theorem BlkI.at {w : World} {b : Nat} {l : List Int} (h : BlkI w b l) (j : Nat) (hj : j < l.length) : w.cell? ⟨b, j, none⟩ = some (.int .i64 (rd l (j : Int))) := by
  rw [cell_blk h]
  unfold rd
  simp [List.getElem?_eq_getElem hj, List.getD_eq_getElem?_getD]
theorem BlkI.set {w : World} {b : Nat} {l : List Int} (h : BlkI w b l) (j : Nat) (x : Int) : BlkI (w.setCell ⟨b, j, none⟩ (.int .i64 x)) b (l.set j x) := by
  unfold BlkI
  rw [blk_set h]
  simp [List.map_set]
theorem made_blk (n : Nat) : madeCells #[.int .i64 0] n = ((List.replicate n (0 : Int)).map (Value.int .i64)).toArray := by
  apply Array.ext'
  simp only [madeCells]
  rw [List.map_replicate]
  apply List.ext_getElem (by simp)
  intro i h1 h2
  simp [Nat.mod_one]
/-- The five lists, the first k of them made. -/
def op (D c k j : Nat) : Value := if j < k then .slice (some ⟨D + j, 0, none⟩) (szN c j) (szN c j) else .slice none 0 0
def outs (D c k : Nat) : Array Value := #[op D c k 0, op D c k 1, op D c k 2, op D c k 3, op D c k 4]
theorem outs_set (D c k : Nat) (hk : k < 5) : (outs D c k).setIfInBounds k (.slice (some ⟨D + k, 0, none⟩) (szN c k) (szN c k)) = outs D c (k + 1) := by
  have hks : k = 0 ∨ k = 1 ∨ k = 2 ∨ k = 3 ∨ k = 4 := by omega
  rcases hks with rfl | rfl | rfl | rfl | rfl <;> simp [outs, op]
theorem outs_get (D c k j : Nat) (hj : j < 5) : (outs D c k)[j]? = some (op D c k j) := by
  have hks : j = 0 ∨ j = 1 ∨ j = 2 ∨ j = 3 ∨ j = 4 := by omega
  rcases hks with rfl | rfl | rfl | rfl | rfl <;> rfl
theorem index_sizes (c k : Nat) (hk : k < 5) (W : World) : (Instr.index 50 (.agg #[.int .i64 (greenN c), .int .i64 256, .int .i64 256, .int .i64 256, .int .i64 40]) (.int .i64 k)).run Tryd.prog W = .ok (.int .i64 (szN c k)) W := by
  have hks : k = 0 ∨ k = 1 ∨ k = 2 ∨ k = 3 ∨ k = 4 := by omega
  rcases hks with rfl | rfl | rfl | rfl | rfl <;> simp [szN, Instr.index, run_underlying Tryd.underlying50, asIntOf, go_sem]
theorem szN_le {c : Nat} (hc : c ≤ 11) (k : Nat) : 40 ≤ szN c k ∧ szN c k ≤ 2328 := by
  have h := greenN_le hc
  unfold szN
  split <;> (try split) <;> omega
theorem szN_256 {c : Nat} (hc : c ≤ 11) {k : Nat} (hk : k < 4) : 256 ≤ szN c k := by
  have h := greenN_le hc
  unfold szN
  split <;> (try split) <;> omega
def nils : Array Value := #[.slice none 0 0, .slice none 0 0, .slice none 0 0, .slice none 0 0, .slice none 0 0]
theorem size_counts : (Tryd.prog.info? 26).map (·.size) = some 5 := by kernel_rfl

set_option maxRecDepth 100000 in
set_option maxHeartbeats 8000000 in
theorem count_lit (tb cc width c : Nat) (ps : List Nat) (w : World) (hT : ReadsK w tb (ps.map fun (p : Nat) => lit (p : Int))) (_htb : tb < w.heap.size) (hc : c ≤ 11) (hw : 1 ≤ width ∧ width ≤ 16384) (hn : ps.length ≤ 268435456) (hp : ∀ p ∈ ps, p < 4294967296) :
    Calls Tryd.prog 13 #[.slice (some ⟨tb, 0, none⟩) ps.length cc, .int .i64 width, .int .i64 c] w fun e w' => Below w.heap.size w w' ∧ ∃ D, w.heap.size ≤ D ∧ e = .returned (.tuple #[.agg (outs D c 5), .bool true]) ∧ ∀ k, k < 5 → BlkI w' (D + k) (histL c ps k) := by
  have HMAY := Lib.hid (fun W => may_in c W hc)
  have HTK := Lib.hid hT; have HPP := Lib.hid hp
  obtain ⟨n, hnn⟩ : ∃ n, ps.length = n := ⟨_, rfl⟩
  rw [hnn]
  rw [hnn] at hn
  have HNN := Lib.hid hnn
  have hm0 : Mods [] w ((w.alloc (.cells nils 26)).alloc (.cells nils 26)) := ((Mods.refl [] w).alloc _).alloc _
  have HM0 := Lib.hid hm0
  have hr0 : ((w.alloc (.cells nils 26)).alloc (.cells nils 26)).heap[w.heap.size]? = some (.cells nils 26 (0, 0)) := (Below.heap_alloc _ _ _ (by simp)).trans (alloc_new _ _ _)
  have ho0 : ((w.alloc (.cells nils 26)).alloc (.cells nils 26)).heap[w.heap.size + 1]? = some (.cells nils 26 (0, 0)) := by
    have h := alloc_new (w.alloc (.cells nils 26)) nils 26
    rw [show (w.alloc (.cells nils 26)).heap.size = w.heap.size + 1 from by simp] at h
    exact h
  have HR0 := Lib.hid hr0; have HO0 := Lib.hid ho0
  have hs0 : ((w.alloc (.cells nils 26)).alloc (.cells nils 26)).heap.size = w.heap.size + 2 := by simp
  clear hT hp hnn hm0 hr0 ho0
  go_enter Tryd.func13, Tryd.ntmps13
  go_wp2_with fail
  rw [show (#[Value.slice none 0 0, .slice none 0 0, .slice none 0 0, .slice none 0 0, .slice none 0 0] : Array Value) = nils from rfl]
  generalize hw0 : (w.alloc (.cells nils 26)).alloc (.cells nils 26) = w0 at *
  clear hw0
  refine (HMAY.out _).mono ?_
  rintro e w' ⟨rfl, rfl⟩
  go_wp2_with fail
  refine (sizes_in c _ hc).mono ?_
  rintro e w1 ⟨rfl, hB⟩
  have HM1 := Lib.hid (HM0.out.trans (Mods.of_below hB []))
  have HR1 := Lib.hid ((Mods.of_below hB []).blk HR0.out (by simp))
  have HO1 := Lib.hid (show w1.heap[w.heap.size + 1]? = some (.cells (outs w1.heap.size c 0) 26 (0, 0)) from (Mods.of_below hB []).blk HO0.out (by simp))
  have hz1 : w.heap.size + 2 ≤ w1.heap.size := by have := hB.size; omega
  have HSA : Hid (szA c = #[.int .i64 (greenN c), .int .i64 256, .int .i64 256, .int .i64 256, .int .i64 40]) := Lib.hid rfl
  rw [HSA.out]
  clear hB
  go_wp2_with fail
  obtain ⟨D, hD⟩ : ∃ D, w1.heap.size = D := ⟨_, rfl⟩
  rw [hD] at HO1 hz1
  have HDD := Lib.hid hD
  clear hD
  go_loopw [9, 10, 22] (fun _ _ i wr => ∃ k : Nat, k ≤ 5 ∧ i = .int .i64 k ∧ Hid (wr.heap.size = D + k) ∧ Hid (wr.heap[w.heap.size]? = some (.cells nils 26 (0, 0))) ∧ Hid (wr.heap[w.heap.size + 1]? = some (.cells (outs D c k) 26 (0, 0))) ∧ Hid (∀ j, j < k → BlkI wr (D + j) (List.replicate (szN c j) 0)) ∧ Hid (Mods [] w wr)) (fun _ _ i _ => 5 - (intOf i).toNat)
  case atStart => exact ⟨0, by omega, rfl, by rw [Nat.add_zero]; exact HDD, HR1, HO1, Lib.hid (fun j hj => by omega), HM1⟩
  case round =>
    clear HR1 HO1 HM1 HDD
    obtain ⟨k, hk, rfl, HZ, HR, HO, HL, HM⟩ := hrel
    by_cases hlt : k < 5
    · have hix : ∀ W, (Instr.index 50 (.agg #[.int .i64 (greenN c), .int .i64 256, .int .i64 256, .int .i64 256, .int .i64 40]) (.int .i64 k)).run Tryd.prog W = .ok (.int .i64 (szN c k)) W := fun W => index_sizes c k hlt W
      have hsz := szN_le hc k
      obtain ⟨N, hN⟩ : ∃ N, szN c k = N := ⟨_, rfl⟩
      rw [hN] at hsz
      simp only [hN] at hix
      have hmk := print_make (P := Tryd.prog) 25 3 .i64 8 Tryd.underlying25 info_int (by decide) N (by omega)
      have hcell : ∀ o, (wr.alloc o).cell? ⟨w.heap.size + 1, k, none⟩ = some (op D c k k) := fun o => by rw [cell_blk ((Mods.alloc (Mods.refl [] wr) o).blk HO.out (by simp))]; exact outs_get D c k k hlt
      have hfr : ∀ o, (wr.alloc o).frozen? ⟨w.heap.size + 1, k, none⟩ = false := fun o => free_blk ((Mods.alloc (Mods.refl [] wr) o).blk HO.out (by simp)) k
      have k1 : decide ((k : Int) < 5) = true := decide_eq_true (by omega)
      have k2 : (k : Int) < 5 := by omega
      have HNN2 := Lib.hid hN
      clear hN
      go_wp2_with fail
      go_roundw
      case rel =>
        obtain ⟨wa, hwa⟩ : ∃ wa, wr.alloc (.cells (madeCells #[.int .i64 0] N) 3) = wa := ⟨_, rfl⟩
        have ha : Mods [] wr wa := by rw [← hwa]; exact (Mods.refl [] wr).alloc _
        have hb : wa.heap[D + k]? = some (.cells ((List.replicate N (0 : Int)).map (Value.int .i64)).toArray 3 (0, 0)) := by
          rw [← hwa, ← made_blk, ← HZ.out]; exact alloc_new _ _ _
        have hs : wa.heap.size = D + k + 1 := by rw [← hwa]; simp; exact HZ.out
        rw [hwa]
        rw [HZ.out]
        have hmx : Mods [w.heap.size + 1] wa (wa.setCell ⟨w.heap.size + 1, k, none⟩ (.slice (some ⟨D + k, 0, none⟩) N N)) := (Mods.refl _ wa).setCell (p := ⟨w.heap.size + 1, k, none⟩) (.inl (by simp)) _
        have g1 : Hid ((wa.setCell ⟨w.heap.size + 1, k, none⟩ (.slice (some ⟨D + k, 0, none⟩) N N)).heap.size = D + (k + 1)) := Lib.hid (by simp; omega)
        have g2 := Lib.hid (hmx.blk (ha.blk HR.out (by simp)) (by simp))
        have g3 : Hid ((wa.setCell ⟨w.heap.size + 1, k, none⟩ (.slice (some ⟨D + k, 0, none⟩) N N)).heap[w.heap.size + 1]? = some (.cells (outs D c (k + 1)) 26 (0, 0))) := Lib.hid (by
          rw [← outs_set D c k hlt, HNN2.out]; exact blk_set (ha.blk HO.out (by simp)) k _)
        have g4 : Hid (∀ j, j < k + 1 → BlkI (wa.setCell ⟨w.heap.size + 1, k, none⟩ (.slice (some ⟨D + k, 0, none⟩) N N)) (D + j) (List.replicate (szN c j) 0)) := Lib.hid (fun j hj => by
          by_cases e : j = k
          · subst e
            rw [HNN2.out]
            exact hmx.blk hb (by simp; omega)
          · exact (BlkI.mods (HL.out j (by omega)) ha (by simp)).mods hmx (by simp; omega))
        have g5 : Hid (Mods [] w (wa.setCell ⟨w.heap.size + 1, k, none⟩ (.slice (some ⟨D + k, 0, none⟩) N N))) := Lib.hid ((HM.out.trans ha).trans_new hmx (by simp))
        first | exact ⟨k + 1, by omega, by go_num, g1, g2, g3, g4, g5⟩ | ((repeat apply Exists.intro); exact ⟨⟨k + 1, by omega, by go_num, g1, g2, g3, g4, g5⟩, rfl⟩)
      case measure => simp [intOf]; omega
    · obtain rfl : k = 5 := by omega
      go_wp2_with fail
      have HL0 := Lib.hid (show ∀ j, j < 5 → BlkI wr (D + j) (histL c (ps.take 0) j) from fun j hj => by rw [List.take_zero, histL_nil]; exact HL.out j hj)
      have hz5 : D + 5 ≤ wr.heap.size := by rw [HZ.out]; omega
      clear HL HZ
      go_loopw [12, 13, 15, 33, 45] (fun _ _ _ i _ wq => ∃ k : Nat, k ≤ n ∧ i = .int .i64 k ∧ D + 5 ≤ wq.heap.size ∧ Hid (wq.heap[w.heap.size]? = some (.cells nils 26 (0, 0))) ∧ Hid (wq.heap[w.heap.size + 1]? = some (.cells (outs D c 5) 26 (0, 0))) ∧ Hid (∀ j, j < 5 → BlkI wq (D + j) (histL c (ps.take k) j)) ∧ Hid (Mods [] w wq)) (fun _ _ _ i _ _ => n - (intOf i).toNat)
      case atStart => exact ⟨0, by omega, rfl, hz5, HR, HO, HL0, HM⟩
      case round =>
        clear HR HO HL0 HM hz5
        obtain ⟨k, hk, rfl, hz, HR, HO, HL, HM⟩ := hrel
        by_cases hlt : k < n
        · obtain ⟨p, hpk⟩ : ∃ p, ps[k]? = some p := ⟨ps[k]'(by rw [HNN.out]; exact hlt), List.getElem?_eq_getElem _⟩
          have hp32 : p < 4294967296 := HPP.out p (List.mem_of_getElem? hpk)
          have HPK := Lib.hid hpk
          obtain ⟨t0, t1, t2, t3, t4⟩ := (HTK.out.mods HM.out (by simp)).at k (lit (p : Int)) (by rw [List.getElem?_map, hpk]; rfl)
          simp only [lit] at t0 t1 t2 t3 t4
          have k1 : decide ((k : Int) < (n : Int)) = true := decide_eq_true (by omega)
          have k2 : (k : Int) < (n : Int) := by omega
          clear hpk
          go_wp2_with fail
          have HTB := Lib.hid (alloc_new wr #[.int .i64 1, .int .i64 0, .int .i64 0, .int .i64 0, .int .u32 p] 39)
          have ha : Mods [] wr (wr.alloc (.cells #[.int .i64 1, .int .i64 0, .int .i64 0, .int .i64 0, .int .u32 p] 39)) := (Mods.refl [] wr).alloc _
          have hza : D + 5 ≤ (wr.alloc (.cells #[.int .i64 1, .int .i64 0, .int .i64 0, .int .i64 0, .int .u32 p] 39)).heap.size := by have := ha.size; omega
          have HRa := Lib.hid (ha.blk HR.out (by simp)); have HOa := Lib.hid (ha.blk HO.out (by simp)); have HMa := Lib.hid (HM.out.trans ha)
          have HLa := Lib.hid (show ∀ j, j < 5 → BlkI _ (D + j) (histL c (ps.take k) j) from fun j hj => (HL.out j hj).mods ha (by simp))
          clear t0 t1 t2 t3 t4 HR HO HM HL ha
          generalize wr.alloc (.cells #[.int .i64 1, .int .i64 0, .int .i64 0, .int .i64 0, .int .u32 p] 39) = wa at *
          obtain ⟨y0, y1, y2, y3, y4⟩ := box5 HTB.out
          go_wp2_with fail
          have HPL := Lib.hid (show Calls Tryd.prog 22 #[.agg #[.int .i64 1, .int .i64 0, .int .i64 0, .int .i64 0, .int .u32 p], .int .i64 width] wa _ from parts_lit p width wa hp32 hw)
          refine HPL.out.mono ?_
          rintro e wb ⟨hB, b, rfl, hbl, hbk⟩
          have hmb := Mods.of_below hB []
          have hzb : D + 5 ≤ wb.heap.size := by have := hB.size; omega
          have hbD : D + 5 ≤ b := by omega
          have HRb := Lib.hid (hmb.blk HRa.out (by simp)); have HOb := Lib.hid (hmb.blk HOa.out (by simp)); have HMb := Lib.hid (HMa.out.trans hmb)
          have HLb := Lib.hid (show ∀ j, j < 5 → BlkI wb (D + j) (midL c (ps.take k) p 0 j) from fun j hj => by
            unfold midL; rw [if_neg (by omega)]; exact (HLa.out j hj).mods hmb (by simp))
          have HBK := Lib.hid hbk
          have hnil : ∀ W, (binOp .eql 66 (.slice (some ⟨b, 0, none⟩) 4 4) (.slice none 0 0)).run Tryd.prog W = .ok (.bool false) W := fun W => Lib.run_eql_slice_nil W 66 69 (some ⟨b, 0, none⟩) 4 4 0 0 Tryd.underlying66
          clear hB hbl hbk hmb hza HRa HOa HMa HLa HTB y0 y1 y2 y3 y4 HPL
          go_wp2_with fail
          go_loopw [15, 45] (fun _ i wq => ∃ j : Nat, j ≤ 4 ∧ i = .int .i64 j ∧ D + 5 ≤ wq.heap.size ∧ Hid (wq.heap[w.heap.size]? = some (.cells nils 26 (0, 0))) ∧ Hid (wq.heap[w.heap.size + 1]? = some (.cells (outs D c 5) 26 (0, 0))) ∧ Hid (∀ q, q < 5 → BlkI wq (D + q) (midL c (ps.take k) p j q)) ∧ Hid (Mods [] w wq) ∧ Hid (wq.heap[b]? = some (.cells (partsV p) 69 (0, 0)))) (fun _ i _ => 4 - (intOf i).toNat)
          case atStart => exact ⟨0, by omega, rfl, hzb, HRb, HOb, HLb, HMb, HBK⟩
          case round =>
            clear HRb HOb HLb HMb HBK hzb
            obtain ⟨j, hj, rfl, hz, HR, HO, HL, HM, HBK⟩ := hrel
            by_cases hj4 : j < 4
            · obtain ⟨c0, c1, c2, c3⟩ := partsV_at p j hj4
              rw [← cell_blk HBK.out] at c0 c1 c2 c3
              have m1 : decide ((j : Int) < 4) = true := decide_eq_true (by omega)
              have m2 : (j : Int) < 4 := by omega
              go_wp2_with fail
              have HQ := Lib.hid (alloc_new wr #[.int .i64 j, .int .i64 (qS p j), .int .i64 0, .int .u32 0] 69)
              have ha : Mods [] wr (wr.alloc (.cells #[.int .i64 j, .int .i64 (qS p j), .int .i64 0, .int .u32 0] 69)) := (Mods.refl [] wr).alloc _
              have hzc : D + 5 ≤ (wr.alloc (.cells #[.int .i64 j, .int .i64 (qS p j), .int .i64 0, .int .u32 0] 69)).heap.size := by have := ha.size; omega
              have HRc := Lib.hid (ha.blk HR.out (by simp)); have HOc := Lib.hid (ha.blk HO.out (by simp)); have HMc := Lib.hid (HM.out.trans ha); have HBKc := Lib.hid (ha.blk HBK.out (by simp))
              have HLc := Lib.hid (show ∀ q, q < 5 → BlkI _ (D + q) (midL c (ps.take k) p j q) from fun q hq => (HL.out q hq).mods ha (by simp))
              have HWS := Lib.hid (show D + 5 ≤ wr.heap.size from hz)
              clear c0 c1 c2 c3 HR HO HM HL HBK ha
              generalize wr.alloc (.cells #[.int .i64 j, .int .i64 (qS p j), .int .i64 0, .int .u32 0] 69) = wc at *
              obtain ⟨N, hN⟩ : ∃ N, szN c j = N := ⟨_, rfl⟩
              obtain ⟨sy, hsy⟩ : ∃ sy, qS p j = sy := ⟨_, rfl⟩
              have hsN : sy < N := by
                have h1 := szN_256 hc hj4; have h2 := qS_lt hp32 j
                omega
              have hNb := (szN_le hc j).2
              rw [hN] at hNb
              have hLj := HLc.out j (by omega)
              have hmid : midL c (ps.take k) p j j = histL c (ps.take k) j := by unfold midL; rw [if_neg (Nat.lt_irrefl _)]
              rw [hmid] at hLj
              have hgt : rd (histL c (ps.take k) j) (sy : Int) = (hist (ps.take k) j sy : Int) := histL_get c _ j sy hj4 (by rw [hN]; exact hsN)
              have hcnt : hist (ps.take k) j sy ≤ n := by
                have h1 := List.countP_le_length (p := fun p => decide (qS p j = sy)) (l := ps.take k)
                rw [List.length_take] at h1
                unfold hist; omega
              have cD : wc.cell? ⟨D + j, sy, none⟩ = some (.int .i64 (hist (ps.take k) j sy)) := by rw [hLj.at sy (by rw [histL_length, hN]; exact hsN), hgt]
              have fD : wc.frozen? ⟨D + j, sy, none⟩ = false := free_blk hLj sy
              have HNX := Lib.hid (show (histL c (ps.take k) j).set sy ((hist (ps.take k) j sy : Int) + 1) = histL c (ps.take k ++ [p]) j from by
                have h := histL_next c (ps.take k) p j hj4 (by rw [hsy, hN]; exact hsN)
                rw [hsy] at h; exact h)
              have HLJ := Lib.hid hLj
              generalize hist (ps.take k) j sy = hc0 at *
              have q0 : wc.cell? ⟨wr.heap.size, 0, none⟩ = some (.int .i64 j) := by rw [cell_blk HQ.out]; rfl
              have q1 : wc.cell? ⟨wr.heap.size, 1, none⟩ = some (.int .i64 sy) := by rw [cell_blk HQ.out, ← hsy]; rfl
              have qO : wc.cell? ⟨w.heap.size + 1, j, none⟩ = some (.slice (some ⟨D + j, 0, none⟩) N N) := by
                rw [cell_blk HOc.out, outs_get D c 5 j (by omega)]; unfold op; rw [if_pos (by omega), hN]
              have d1 : decide ((N : Int) ≤ (sy : Int)) = false := decide_eq_false (by omega)
              have d2 : (sy : Int) < (N : Int) := by omega
              have d3 : (0 : Int) ≤ (sy : Int) := by omega
              have d4 : (j : Int) < 5 := by omega
              have d5 : (0 : Int) ≤ (j : Int) := by omega
              have i1 : IntKind.i64.wrap ((hc0 : Int) + 1) = (hc0 : Int) + 1 := IntWalk.i64_in _ (by omega)
              have i2 : wrap64 ((hc0 : Int) + 1) = (hc0 : Int) + 1 := w64 _ (by omega) (by omega)
              have HSY := Lib.hid hsy; have HN9 := Lib.hid hN
              rw [hsy]
              clear hLj hgt hsy hN hmid
              go_quiet (fail)
              go_upto_region 20 with fail
              go_region
              go_wp2_with fail
              have hmx : Mods [D + j] wc ((wc.drewN (nq + 1)).setCell ⟨D + j, sy, none⟩ (.int .i64 ((hc0 : Int) + 1))) := ((Mods.refl [D + j] wc).drewN _).setCell (p := ⟨D + j, sy, none⟩) (.inl (by simp)) _
              have g0 : D + 5 ≤ ((wc.drewN (nq + 1)).setCell ⟨D + j, sy, none⟩ (.int .i64 ((hc0 : Int) + 1))).heap.size := by have := hmx.size; omega
              have g1 := Lib.hid (hmx.blk HRc.out (by simp; omega))
              have g2 := Lib.hid (hmx.blk HOc.out (by simp; omega))
              have g3 : Hid (∀ q, q < 5 → BlkI ((wc.drewN (nq + 1)).setCell ⟨D + j, sy, none⟩ (.int .i64 ((hc0 : Int) + 1))) (D + q) (midL c (ps.take k) p (j + 1) q)) := Lib.hid (fun q hq => by
                by_cases e : q = j
                · subst e
                  have h1 : BlkI (wc.drewN (nq + 1)) (D + q) (histL c (ps.take k) q) := HLJ.out.mods ((Mods.refl [] wc).drewN _) (by simp)
                  have h2 := h1.set sy ((hc0 : Int) + 1)
                  rw [HNX.out] at h2
                  unfold midL; rw [if_pos (by omega)]; exact h2
                · have h1 := (HLc.out q hq).mods hmx (by simp; omega)
                  unfold midL at h1 ⊢
                  by_cases e2 : q < j
                  · rw [if_pos e2] at h1; rw [if_pos (by omega)]; exact h1
                  · rw [if_neg e2] at h1; rw [if_neg (by omega)]; exact h1)
              have g4 : Hid (Mods [] w ((wc.drewN (nq + 1)).setCell ⟨D + j, sy, none⟩ (.int .i64 ((hc0 : Int) + 1)))) := Lib.hid (HMc.out.trans_new hmx (by simp; omega))
              have g5 := Lib.hid (hmx.blk HBKc.out (by simp; omega))
              exact ⟨⟨j + 1, by omega, by go_num, g0, g1, g2, g3, g4, g5⟩, by simp [intOf]; omega⟩
            · obtain rfl : j = 4 := by omega
              go_wp2_with fail
              go_roundw
              case rel =>
                have g3 : Hid (∀ q, q < 5 → BlkI wr (D + q) (histL c (ps.take (k + 1)) q)) := Lib.hid (fun q hq => by
                  have h1 := HL.out q hq
                  have e1 : ps.take (k + 1) = ps.take k ++ [p] := by rw [List.take_add_one, HPK.out]; rfl
                  unfold midL at h1
                  by_cases e2 : q < 4
                  · rw [if_pos e2] at h1; rw [e1]; exact h1
                  · obtain rfl : q = 4 := by omega
                    rw [if_neg e2] at h1
                    rw [histL_dist c (ps.take (k + 1)) (ps.take k)]; exact h1)
                first | exact ⟨k + 1, by omega, by go_num, hz, HR, HO, g3, HM⟩ | ((repeat apply Exists.intro); exact ⟨⟨k + 1, by omega, by go_num, hz, HR, HO, g3, HM⟩, rfl⟩)
              case measure => simp [intOf]; omega
        · obtain rfl : k = n := by omega
          obtain ⟨y0, y1, y2, y3, y4⟩ := box5 (show wr.heap[w.heap.size + 1]? = some (.cells #[.slice (some ⟨D + 0, 0, none⟩) (szN c 0) (szN c 0), .slice (some ⟨D + 1, 0, none⟩) (szN c 1) (szN c 1), .slice (some ⟨D + 2, 0, none⟩) (szN c 2) (szN c 2), .slice (some ⟨D + 3, 0, none⟩) (szN c 3) (szN c 3), .slice (some ⟨D + 4, 0, none⟩) (szN c 4) (szN c 4)] 26 (0, 0)) from HO.out)
          obtain ⟨x0, x1, x2, x3, x4⟩ := box5 (show wr.heap[w.heap.size]? = some (.cells #[.slice none 0 0, .slice none 0 0, .slice none 0 0, .slice none 0 0, .slice none 0 0] 26 (0, 0)) from HR.out)
          obtain ⟨z0, z1, z2, z3, z4⟩ := box5f (show wr.heap[w.heap.size]? = some (.cells #[.slice none 0 0, .slice none 0 0, .slice none 0 0, .slice none 0 0, .slice none 0 0] 26 (0, 0)) from HR.out)
          go_wp2_with fail
          have hb := blk_set5 (show wr.heap[w.heap.size]? = some (.cells #[.slice none 0 0, .slice none 0 0, .slice none 0 0, .slice none 0 0, .slice none 0 0] 26 (0, 0)) from HR.out) (.slice (some ⟨D, 0, none⟩) (szN c 0) (szN c 0)) (.slice (some ⟨D + 1, 0, none⟩) (szN c 1) (szN c 1)) (.slice (some ⟨D + 2, 0, none⟩) (szN c 2) (szN c 2)) (.slice (some ⟨D + 3, 0, none⟩) (szN c 3) (szN c 3)) (.slice (some ⟨D + 4, 0, none⟩) (szN c 4) (szN c 4))
          have hm5 := mods_set5 w.heap.size wr (.slice (some ⟨D, 0, none⟩) (szN c 0) (szN c 0)) (.slice (some ⟨D + 1, 0, none⟩) (szN c 1) (szN c 1)) (.slice (some ⟨D + 2, 0, none⟩) (szN c 2) (szN c 2)) (.slice (some ⟨D + 3, 0, none⟩) (szN c 3) (szN c 3)) (.slice (some ⟨D + 4, 0, none⟩) (szN c 4) (szN c 4))
          refine bodyPost_ret (results_box rfl _ _ _ _ _ _ _ rfl hb Tryd.underlying26 rfl size_counts) rfl ?_
          refine ⟨(HM.out.trans_new hm5 (by simp)).below, D, by omega, rfl, fun q hq => ?_⟩
          have h1 := HL.out q hq
          rw [List.take_of_length_le (by rw [HNN.out]; exact Nat.le_refl _)] at h1
          exact h1.mods hm5 (by simp; omega)
end Go.Proofs.YtfeloicmkcfinaaDoor
