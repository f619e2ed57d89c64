/- What package group does: a pixel that is told. -/
import Derived.Test.YtfeloicmkcfinaaDoorGrp3
import Derived.BigQuiet
import Derived.Deep.RegionHeld3
namespace Go.Proofs.YtfeloicmkcfinaaDoor
open Go.RowKit
open Go.Proofs.YtfeloicmkcfinaaDoorW.PrintWords
open Srt

def qA (p : Nat) : Nat := p / 16777216
def qR (p : Nat) : Nat := p / 65536 % 256
def qG (p : Nat) : Nat := p / 256 % 256
def qB (p : Nat) : Nat := p % 256
/-- The symbol of a pixel in the code k. -/
def qS (p k : Nat) : Nat := if k = 0 then qG p else if k = 1 then qR p else if k = 2 then qB p else qA p
theorem qS_lt {p : Nat} (hp : p < 4294967296) (k : Nat) : qS p k < 256 := by
  unfold qS qG qR qB qA
  split <;> (try split) <;> (try split) <;> omega
theorem mk_q {p : Nat} : mk32 (qA p) (qR p) (qG p) (qB p) = p := by
  unfold mk32 qA qR qG qB; omega
def partsV (p : Nat) : Array Value := #[.int .i64 0, .int .i64 (qG p), .int .i64 0, .int .u32 0, .int .i64 1, .int .i64 (qR p), .int .i64 0, .int .u32 0, .int .i64 2, .int .i64 (qB p), .int .i64 0, .int .u32 0, .int .i64 3, .int .i64 (qA p), .int .i64 0, .int .u32 0]
theorem partsV_at (p k : Nat) (hk : k < 4) : (partsV p)[k * 4]? = some (.int .i64 k) ∧ (partsV p)[k * 4 + 1]? = some (.int .i64 (qS p k)) ∧ (partsV p)[k * 4 + 2]? = some (.int .i64 0) ∧ (partsV p)[k * 4 + 3]? = some (.int .u32 0) := by
  have hks : k = 0 ∨ k = 1 ∨ k = 2 ∨ k = 3 := by omega
  rcases hks with rfl | rfl | rfl | rfl <;> exact ⟨rfl, rfl, rfl, rfl⟩
theorem partsV_eq (p : Nat) : partsV p = #[.int .i64 0, .int .i64 ((p : Int) / 256 % 256), .int .i64 0, .int .u32 0, .int .i64 1, .int .i64 ((p : Int) / 65536 % 256), .int .i64 0, .int .u32 0, .int .i64 2, .int .i64 ((p : Int) % 256), .int .i64 0, .int .u32 0, .int .i64 3, .int .i64 ((p : Int) / 16777216), .int .i64 0, .int .u32 0] := by
  unfold partsV qG qR qB qA
  simp
set_option maxRecDepth 8000 in
set_option maxHeartbeats 2000000 in
theorem parts_lit (p width : Nat) (w : World) (hp : p < 4294967296) (hw : 1 ≤ width ∧ width ≤ 16384) :
    Calls Tryd.prog 22 #[tkV (lit p), .int .i64 width] w fun e w' => Below w.heap.size w w' ∧ ∃ b, e = .returned (.slice (some ⟨b, 0, none⟩) 4 4) ∧ w.heap.size ≤ b ∧ w'.heap[b]? = some (.cells (partsV p) 69 (0, 0)) := by
  have HWD := Lib.hid (fun W => wide_in width W hw)
  have HT0 := Lib.hid (alloc_new w #[.int .i64 1, .int .i64 0, .int .i64 0, .int .i64 0, .int .u32 p] 39)
  have HB0 := Lib.hid ((Below.refl _ w).alloc (Nat.le_refl _) (.cells #[.int .i64 1, .int .i64 0, .int .i64 0, .int .i64 0, .int .u32 p] 39))
  have HTK : Hid (tkV (lit p) = .agg #[.int .i64 1, .int .i64 0, .int .i64 0, .int .i64 0, .int .u32 p]) := Lib.hid rfl
  rw [HTK.out]
  obtain ⟨y0, y1, y2, y3, y4⟩ := box5 HT0.out
  go_enter Tryd.func22, Tryd.ntmps22
  go_wp2_with fail
  generalize hw1 : w.alloc (.cells #[.int .i64 1, .int .i64 0, .int .i64 0, .int .i64 0, .int .u32 p] 39) = w1 at *
  clear hw1
  refine (HWD.out _).mono ?_
  rintro e w' ⟨rfl, rfl⟩
  go_wp2_with fail
  refine (parts_any p w1 (by omega) (by omega)).mono ?_
  rintro e w' ⟨rfl, rfl⟩
  go_wp2_with fail
  go_ret
  refine ⟨HB0.out.alloc HB0.out.size _, w1.heap.size, rfl, HB0.out.size, ?_⟩
  rw [partsV_eq]
  exact alloc_new _ _ _

/-- The bits of a pixel's first k codes. -/
def pxB (ls : Nat → List Int) (p : Nat) : Nat → List Int
  | 0 => []
  | k + 1 => pxB ls p k ++ codeBits (codeS (ls k) (qS p k)) (costS (ls k) (qS p k)).toNat
theorem Mods.cell {S : List Nat} {w w' : World} (h : Mods S w w') {a : Addr} {u : Value} (hc : w.cell? a = some u) (ha : a.block ∉ S) : w'.cell? a = some u :=
  (World.cell?_of_block (w := w) (h.block _ (World.block_lt_of_cell? w _ hc) ha)).trans hc
theorem pxB_len {w : World} {G hi : Nat} {ls : Nat → List Int} (h : ∃ (B : Nat → Nat) (os : Nat → List Int), w.heap[G]? = some (.cells (trees B 5) 56 (0, 0)) ∧ ∀ k, k < 5 → IsTree w (B k) hi (ls k) (os k)) (p k : Nat) (hk : k ≤ 5) : (pxB ls p k).length ≤ 15 * k := by
  obtain ⟨B, os, _, ht⟩ := h
  induction k with
  | zero => simp [pxB]
  | succ k ih =>
    have h1 := ih (by omega)
    have h2 := costS_le (ht k (by omega)).2.2.2.1 (qS p k)
    unfold pxB
    rw [List.length_append, codeBits_length]
    omega
set_option maxRecDepth 100000 in
set_option maxHeartbeats 4000000 in
theorem tell_lit (G hi g p width : Nat) (ls : Nat → List Int) (v : Value) (l : List Int) (w : World) (hG : IsGrp w G hi ls) (hg : hi ≤ g) (hv : ∀ b, v.ownBlock = some b → hi ≤ b) (hW : Wtr w g v l) (hl : l.length + 60 ≤ 140737488351232) (hp : p < 4294967296) (hw : 1 ≤ width ∧ width ≤ 16384) (hs : ∀ k, k < 4 → hasS (ls k) (qS p k) = true) :
    Calls Tryd.prog 11 #[.pointer (some ⟨G, 0, none⟩), .pointer (some ⟨g, 0, none⟩), tkV (lit p), .int .i64 width] w fun e w' => e = .returned (.bool true) ∧ ∃ v', Wtr w' g v' (l ++ pxB ls p 4) ∧ Mods (g :: rows v) w w' ∧ (v'.ownBlock = v.ownBlock ∨ ∃ b, v'.ownBlock = some b ∧ w.heap.size ≤ b) := by
  have HG := Lib.hid hG; have HV := Lib.hid hv; have HW := Lib.hid hW; have HS := Lib.hid hs
  have HT0 := Lib.hid (alloc_new w #[.int .i64 1, .int .i64 0, .int .i64 0, .int .i64 0, .int .u32 p] 39)
  have HB0 := Lib.hid ((Below.refl _ w).alloc (Nat.le_refl _) (.cells #[.int .i64 1, .int .i64 0, .int .i64 0, .int .i64 0, .int .u32 p] 39))
  have HTK : Hid (tkV (lit p) = .agg #[.int .i64 1, .int .i64 0, .int .i64 0, .int .i64 0, .int .u32 p]) := Lib.hid rfl
  rw [HTK.out]
  have hgw := blk_lt hW.2.2.1
  clear hG hv hW hs
  obtain ⟨y0, y1, y2, y3, y4⟩ := box5 HT0.out
  go_enter Tryd.func11, Tryd.ntmps11
  go_wp2_with fail
  rw [← HTK.out]
  refine (parts_lit p width _ hp hw).mono ?_
  rintro e w1 ⟨hB1, b, rfl, hb, hbk⟩
  have hz1 := hB1.size
  have HB1 := Lib.hid (below_then HB0.out HB0.out.size hB1)
  have HBK := Lib.hid hbk
  have hbw : w.heap.size ≤ b := by have := HB0.out.size; omega
  clear y0 y1 y2 y3 y4 hB1 hbk hz1 hb
  have hnil : ∀ W, (binOp .eql 66 (.slice (some ⟨b, 0, none⟩) 4 4) (.slice none 0 0)).run Tryd.prog W = .ok (.bool false) W := fun W => Lib.run_eql_slice_nil W 66 69 (some ⟨b, 0, none⟩) 4 4 0 0 Tryd.underlying66
  go_wp2_with fail
  go_loopw [11, 12, 13, 31] (fun _ _ _ i wr => ∃ k : Nat, k ≤ 4 ∧ i = .int .i64 k ∧ Hid (Below w.heap.size w wr) ∧ Hid (wr.heap[b]? = some (.cells (partsV p) 69 (0, 0)))) (fun _ _ _ i _ => 4 - (intOf i).toNat)
  case atStart => exact ⟨0, by omega, rfl, HB1, HBK⟩
  case round =>
    clear HB1 HBK
    obtain ⟨k, hk, rfl, HBr, HBK⟩ := hrel
    by_cases hlt : k < 4
    · obtain ⟨c0, c1, c2, c3⟩ := partsV_at p k hlt
      rw [← cell_blk HBK.out] at c0 c1 c2 c3
      have k1 : decide ((k : Int) < 4) = true := decide_eq_true (by omega)
      have k2 : (k : Int) < 4 := by omega
      go_wp2_with fail
      have HBq := Lib.hid (HBr.out.alloc HBr.out.size (.cells #[.int .i64 k, .int .i64 (qS p k), .int .i64 0, .int .u32 0] 69))
      have HBKq := Lib.hid ((Mods.alloc (Mods.refl [] wr) (.cells #[.int .i64 k, .int .i64 (qS p k), .int .i64 0, .int .u32 0] 69)).blk HBK.out (by simp))
      have HQ := Lib.hid (alloc_new wr #[.int .i64 k, .int .i64 (qS p k), .int .i64 0, .int .u32 0] 69)
      clear c0 c1 c2 c3
      generalize wr.alloc (.cells #[.int .i64 k, .int .i64 (qS p k), .int .i64 0, .int .u32 0] 69) = wq at *
      obtain ⟨hiw, hGi, B, os, hgb, htr⟩ := HG.out.mods (Mods.of_below HBq.out []) (by simp)
      have hcg : wq.cell? ⟨G, k, none⟩ = some (.pointer (some ⟨B k, 0, none⟩)) := by
        rw [cell_blk hgb, trees_get B 5 k (by omega)]
        unfold tp; rw [if_pos (by omega)]
      have q0 : wq.cell? ⟨wr.heap.size, 0, none⟩ = some (.int .i64 k) := by rw [cell_blk HQ.out]; rfl
      have q1 : wq.cell? ⟨wr.heap.size, 1, none⟩ = some (.int .i64 (qS p k)) := by rw [cell_blk HQ.out]; rfl
      have HTQ := Lib.hid (htr k (by omega))
      have HCO := Lib.hid (fun W (h : IsTree W (B k) hi (ls k) (os k)) => show Calls Tryd.prog 23 #[.pointer (some ⟨B k, 0, none⟩), .int .i64 (qS p k)] W fun e w' => e = .returned (.tuple #[.int .i64 (costS (ls k) (qS p k)), .bool true]) ∧ W = w' from by
        have h2 := cost_any (B k) hi (ls k) (os k) (qS p k) W h
        rw [HS.out k hlt] at h2; exact h2)
      have k3 : (k : Int) < 5 := by omega
      have k4 : (0 : Int) ≤ (k : Int) := by omega
      clear hiw hGi hgb htr
      generalize costS (ls k) (qS p k) = cst at *
      go_quiet ((go_at_call 23; exact Calls.quiet_of_same ((HCO.out _ (by first | exact HTQ.out | exact HTQ.out.drewN _)).mono fun _ _ h => ⟨h.1, h.2.symm⟩)))
      go_wp2_with fail
      go_roundw
      case rel =>
        exact ⟨k + 1, by omega, by go_num, Lib.hid (pw_below_drewN HBq.out _), Lib.hid (by rw [heap_drewN]; exact HBKq.out)⟩
      case measure => simp [intOf]; omega
    · obtain rfl : k = 4 := by omega
      go_wp2_with fail
      have hbv : ∀ q, v.ownBlock = some q → q < w.heap.size := fun q hq => own_lt HW.out.2.2.2 q hq
      have HBV := Lib.hid hbv
      have hnot : b ∉ g :: rows v := by
        simp only [List.mem_cons, not_or]
        refine ⟨by omega, fun hm => ?_⟩
        have := hbv b (by simpa [rows] using hm)
        omega
      have HNOT := Lib.hid hnot
      have HW0 := Lib.hid (HW.out.mods (Mods.of_below HBr.out []) (by simp) (by simp))
      have HB0r := Lib.hid HBr.out
      have HBK0 := Lib.hid HBK.out
      obtain ⟨w0, hw0⟩ : ∃ w0 : World, w0 = wr := ⟨_, rfl⟩
      have HM0 := Lib.hid (show Mods (g :: rows v) w0 wr from by rw [hw0]; exact Mods.refl _ _)
      rw [← hw0] at HBr HBK HB0r HBK0
      have hz0 := HBr.out.size
      clear hbv hnot HBr HBK
      have HG0 := Lib.hid (HG.out.mods (Mods.of_below HB0r.out []) (by simp))
      have HGI := Lib.hid (show hi ≤ w.heap.size from HG.out.1)
      go_loopw [15, 53] (fun _ i wr => ∃ (k : Nat) (v1 : Value), k ≤ 4 ∧ i = .int .i64 k ∧ Hid (Wtr wr g v1 (l ++ pxB ls p k)) ∧ Hid (Mods (g :: rows v) w0 wr) ∧ Hid (v1.ownBlock = v.ownBlock ∨ ∃ b, v1.ownBlock = some b ∧ w0.heap.size ≤ b)) (fun _ i _ => 4 - (intOf i).toNat)
      case atStart => exact ⟨0, v, by omega, rfl, by rw [show pxB ls p 0 = [] from rfl, List.append_nil]; exact HW0, HM0, .inl rfl⟩
      case round =>
        clear HW0 HM0 hw0
        obtain ⟨k, v1, hk, rfl, HW1, HM1, HA1⟩ := hrel
        by_cases hlt : k < 4
        · have HBKr := Lib.hid (HM1.out.blk HBK0.out HNOT.out)
          obtain ⟨c0, c1, c2, c3⟩ := partsV_at p k hlt
          rw [← cell_blk HBKr.out] at c0 c1 c2 c3
          have k1 : decide ((k : Int) < 4) = true := decide_eq_true (by omega)
          have k2 : (k : Int) < 4 := by omega
          go_wp2_with fail
          have hwg := HM1.out.size
          have HWq := Lib.hid (HW1.out.mods (S := []) (w' := wr.alloc (.cells #[.int .i64 k, .int .i64 (qS p k), .int .i64 0, .int .u32 0] 69)) (Mods.alloc (Mods.refl [] wr) _) (by simp) (by simp))
          have HMq := Lib.hid (HM1.out.alloc (.cells #[.int .i64 k, .int .i64 (qS p k), .int .i64 0, .int .u32 0] 69))
          have HQ := Lib.hid (alloc_new wr #[.int .i64 k, .int .i64 (qS p k), .int .i64 0, .int .u32 0] 69)
          have hzq : wr.heap.size + 1 = (wr.alloc (.cells #[.int .i64 k, .int .i64 (qS p k), .int .i64 0, .int .u32 0] 69)).heap.size := by simp
          have hvq : ∀ q, v1.ownBlock = some q → q < wr.heap.size := fun q hq => own_lt HW1.out.2.2.2 q hq
          have HVQ := Lib.hid hvq
          have HVH := Lib.hid (show ∀ q, v1.ownBlock = some q → hi ≤ q from fun q hq => by
            rcases HA1.out with h | ⟨b, h, hb⟩
            · exact HV.out q (by rw [← h]; exact hq)
            · rw [hq] at h; cases h; have := HGI.out; omega)
          clear c0 c1 c2 c3 hvq
          generalize wr.alloc (.cells #[.int .i64 k, .int .i64 (qS p k), .int .i64 0, .int .u32 0] 69) = wq at *
          obtain ⟨hiw, hGi, B, os, hgb, htr⟩ := HG0.out.mods HMq.out (by
            intro s hs
            rcases List.mem_cons.1 hs with rfl | hs
            · exact hg
            · exact HV.out s (by simpa [rows] using hs))
          have hcg : wq.cell? ⟨G, k, none⟩ = some (.pointer (some ⟨B k, 0, none⟩)) := by
            rw [cell_blk hgb, trees_get B 5 k (by omega)]
            unfold tp; rw [if_pos (by omega)]
          have q0 : wq.cell? ⟨wr.heap.size, 0, none⟩ = some (.int .i64 k) := by rw [cell_blk HQ.out]; rfl
          have q1 : wq.cell? ⟨wr.heap.size, 1, none⟩ = some (.int .i64 (qS p k)) := by rw [cell_blk HQ.out]; rfl
          have HTQ := Lib.hid (htr k (by omega))
          have hGlt : G < hi := hGi
          have hll : (l ++ pxB ls p k).length + 15 ≤ 140737488351232 := by
            have := pxB_len (HG.out.2.2) p k (by omega)
            rw [List.length_append]; omega
          have HWR := Lib.hid (fun W (h : IsTree W (B k) hi (ls k) (os k)) (h2 : Wtr W g v1 (l ++ pxB ls p k)) => write_any (B k) hi g (ls k) (os k) v1 (l ++ pxB ls p k) (qS p k) W h (HS.out k hlt) h2 hg hll HVH.out)
          have k3 : (k : Int) < 5 := by omega
          have k4 : (0 : Int) ≤ (k : Int) := by omega
          clear hiw hGi hgb htr
          have HXN := Lib.hid (show wr.heap.size ∉ g :: rows v1 ∧ G ∉ g :: rows v1 from by
            simp only [List.mem_cons, not_or]
            refine ⟨⟨by omega, fun hm => ?_⟩, ⟨by omega, fun hm => ?_⟩⟩
            · have := HVQ.out _ (by simpa [rows] using hm); omega
            · have := HVH.out _ (by simpa [rows] using hm); omega)
          go_upto_region 14 with fail
          go_region_held3 (fun w' => w'.cell? ⟨wr.heap.size, 0, none⟩ = some (.int .i64 k) ∧ w'.cell? ⟨wr.heap.size, 1, none⟩ = some (.int .i64 (qS p k)) ∧ w'.cell? ⟨G, k, none⟩ = some (.pointer (some ⟨B k, 0, none⟩))) ((first | exact ⟨q0, q1, hcg⟩ | exact ⟨Mods.cell hm2 (by first | exact q0 | simpa using q0) HXN.out.1, Mods.cell hm2 (by first | exact q1 | simpa using q1) HXN.out.1, Mods.cell hm2 (by first | exact hcg | simpa using hcg) HXN.out.2⟩ | (simpa using (And.intro q0 (And.intro q1 hcg))) | go_keep)) ((go_at_call 24; refine (HWR.out _ (by first | exact HTQ.out | exact HTQ.out.drewN 1) (by first | exact HWq.out | exact HWq.out.drewN 1)).mono ?_; rintro e w5 ⟨rfl, v2, hv2, hm2, ha2⟩))
          have hmq : Mods (g :: rows v1) wq w5 := by first | exact hm2 | exact (Mods.drew (Mods.refl _ wq)).trans hm2
          have hv2' : v2.ownBlock = v1.ownBlock ∨ ∃ b, v2.ownBlock = some b ∧ wq.heap.size ≤ b := by first | exact ha2 | simpa using ha2
          have HX5 := Lib.hid (hmq.blk HQ.out HXN.out.1)
          have HM5 := Lib.hid (show Mods (g :: rows v) w0 w5 from HMq.out.trans_new hmq (fun r hr => by
            rcases List.mem_cons.1 hr with rfl | hr
            · exact .inl (by simp)
            · have hr' : v1.ownBlock = some r := by simpa [rows] using hr
              rcases HA1.out with h | ⟨b, h, hb⟩
              · exact .inl (by simp [rows, ← h, hr'])
              · rw [hr'] at h; cases h; exact .inr hb))
          have HA5 := Lib.hid (show v2.ownBlock = v.ownBlock ∨ ∃ b, v2.ownBlock = some b ∧ w0.heap.size ≤ b from by
            rcases hv2' with h | ⟨b, h, hb⟩
            · rw [h]; exact HA1.out
            · exact .inr ⟨b, h, by omega⟩)
          have HW5 := Lib.hid (show Wtr w5 g v2 (l ++ pxB ls p (k + 1)) from by
            show Wtr w5 g v2 (l ++ (pxB ls p k ++ codeBits (codeS (ls k) (qS p k)) (costS (ls k) (qS p k)).toNat))
            rw [← List.append_assoc]; exact hv2)
          have c2 : w5.cell? ⟨wr.heap.size, 2, none⟩ = some (.int .i64 0) := by rw [cell_blk HX5.out]; rfl
          have c3 : w5.cell? ⟨wr.heap.size, 3, none⟩ = some (.int .u32 0) := by rw [cell_blk HX5.out]; rfl
          have hl5 : (l ++ pxB ls p (k + 1)).length + 0 ≤ 140737488351232 := by
            have := pxB_len (HG.out.2.2) p (k + 1) (by omega)
            rw [List.length_append]; omega
          clear hm2 ha2 hv2 hmq hv2' q0 q1 hcg
          go_wp2_with fail
          refine (w_bits g v2 (l ++ pxB ls p (k + 1)) 0 0 w5 HW5.out (by omega) (by omega) hl5).mono ?_
          rintro e w6 ⟨rfl, v3, hv3, hm3, ha3⟩
          rw [show bitsOf 0 0 = [] from rfl, List.append_nil] at hv3
          have hz5 := HM5.out.size
          have HW6 := Lib.hid hv3
          have HM6 := Lib.hid (show Mods (g :: rows v) w0 w6 from HM5.out.trans_new hm3 (fun r hr => by
            rcases List.mem_cons.1 hr with rfl | hr
            · exact .inl (by simp)
            · have hr' : v2.ownBlock = some r := by simpa [rows] using hr
              rcases HA5.out with h | ⟨b, h, hb⟩
              · exact .inl (by simp [rows, ← h, hr'])
              · rw [hr'] at h; cases h; exact .inr hb))
          have HA6 := Lib.hid (show v3.ownBlock = v.ownBlock ∨ ∃ b, v3.ownBlock = some b ∧ w0.heap.size ≤ b from by
            rcases ha3 with h | ⟨b, h, hb⟩
            · rw [h]; exact HA5.out
            · exact .inr ⟨b, h, by omega⟩)
          clear hv3 hm3 ha3
          go_wp2_with fail
          go_roundw
          case rel => first | exact ⟨k + 1, v3, by omega, by go_num, HW6.out, HM6.out, HA6.out⟩ | ((repeat apply Exists.intro); exact ⟨⟨k + 1, v3, by omega, by go_num, HW6, HM6, HA6⟩, rfl⟩)
          case measure => simp [intOf]; omega
        · obtain rfl : k = 4 := by omega
          go_wp2_with fail
          go_ret
          refine ⟨rfl, v1, HW1.out, (Mods.of_below HB0r.out _).trans HM1.out, ?_⟩
          rcases HA1.out with h | ⟨q, h, hq⟩
          · exact .inl h
          · exact .inr ⟨q, h, by omega⟩
set_option maxRecDepth 100000 in
set_option maxHeartbeats 4000000 in
theorem tell_no (j G hi g p width : Nat) (ls : Nat → List Int) (v : Value) (l : List Int) (w : World) (hG : IsGrp w G hi ls) (_hg : hi ≤ g) (hv : ∀ b, v.ownBlock = some b → hi ≤ b) (hW : Wtr w g v l) (hp : p < 4294967296) (hw : 1 ≤ width ∧ width ≤ 16384) (hj : j < 4) (hs : ∀ k, k < j → hasS (ls k) (qS p k) = true) (hn : hasS (ls j) (qS p j) = false) :
    Calls Tryd.prog 11 #[.pointer (some ⟨G, 0, none⟩), .pointer (some ⟨g, 0, none⟩), tkV (lit p), .int .i64 width] w fun e w' => e = .returned (.bool false) ∧ Below w.heap.size w w' := by
  have HG := Lib.hid hG; have HV := Lib.hid hv; have HW := Lib.hid hW; have HS := Lib.hid hs; have HNO := Lib.hid hn
  have HT0 := Lib.hid (alloc_new w #[.int .i64 1, .int .i64 0, .int .i64 0, .int .i64 0, .int .u32 p] 39)
  have HB0 := Lib.hid ((Below.refl _ w).alloc (Nat.le_refl _) (.cells #[.int .i64 1, .int .i64 0, .int .i64 0, .int .i64 0, .int .u32 p] 39))
  have HTK : Hid (tkV (lit p) = .agg #[.int .i64 1, .int .i64 0, .int .i64 0, .int .i64 0, .int .u32 p]) := Lib.hid rfl
  rw [HTK.out]
  have hgw := blk_lt hW.2.2.1
  clear hG hv hW hs hn
  obtain ⟨y0, y1, y2, y3, y4⟩ := box5 HT0.out
  go_enter Tryd.func11, Tryd.ntmps11
  go_wp2_with fail
  rw [← HTK.out]
  refine (parts_lit p width _ hp hw).mono ?_
  rintro e w1 ⟨hB1, b, rfl, hb, hbk⟩
  have hz1 := hB1.size
  have HB1 := Lib.hid (below_then HB0.out HB0.out.size hB1)
  have HBK := Lib.hid hbk
  have hbw : w.heap.size ≤ b := by have := HB0.out.size; omega
  clear y0 y1 y2 y3 y4 hB1 hbk hz1 hb
  have hnil : ∀ W, (binOp .eql 66 (.slice (some ⟨b, 0, none⟩) 4 4) (.slice none 0 0)).run Tryd.prog W = .ok (.bool false) W := fun W => Lib.run_eql_slice_nil W 66 69 (some ⟨b, 0, none⟩) 4 4 0 0 Tryd.underlying66
  go_wp2_with fail
  go_loopw [11, 12, 13, 31] (fun _ _ _ i wr => ∃ k : Nat, k ≤ j ∧ i = .int .i64 k ∧ Hid (Below w.heap.size w wr) ∧ Hid (wr.heap[b]? = some (.cells (partsV p) 69 (0, 0)))) (fun _ _ _ i _ => 4 - (intOf i).toNat)
  case atStart => exact ⟨0, by omega, rfl, HB1, HBK⟩
  case round =>
    clear HB1 HBK
    obtain ⟨k, hk, rfl, HBr, HBK⟩ := hrel
    by_cases hlt : k < j
    · obtain ⟨c0, c1, c2, c3⟩ := partsV_at p k (by omega)
      rw [← cell_blk HBK.out] at c0 c1 c2 c3
      have k1 : decide ((k : Int) < 4) = true := decide_eq_true (by omega)
      have k2 : (k : Int) < 4 := by omega
      go_wp2_with fail
      have HBq := Lib.hid (HBr.out.alloc HBr.out.size (.cells #[.int .i64 k, .int .i64 (qS p k), .int .i64 0, .int .u32 0] 69))
      have HBKq := Lib.hid ((Mods.alloc (Mods.refl [] wr) (.cells #[.int .i64 k, .int .i64 (qS p k), .int .i64 0, .int .u32 0] 69)).blk HBK.out (by simp))
      have HQ := Lib.hid (alloc_new wr #[.int .i64 k, .int .i64 (qS p k), .int .i64 0, .int .u32 0] 69)
      clear c0 c1 c2 c3
      generalize wr.alloc (.cells #[.int .i64 k, .int .i64 (qS p k), .int .i64 0, .int .u32 0] 69) = wq at *
      obtain ⟨hiw, hGi, B, os, hgb, htr⟩ := HG.out.mods (Mods.of_below HBq.out []) (by simp)
      have hcg : wq.cell? ⟨G, k, none⟩ = some (.pointer (some ⟨B k, 0, none⟩)) := by
        rw [cell_blk hgb, trees_get B 5 k (by omega)]
        unfold tp; rw [if_pos (by omega)]
      have q0 : wq.cell? ⟨wr.heap.size, 0, none⟩ = some (.int .i64 k) := by rw [cell_blk HQ.out]; rfl
      have q1 : wq.cell? ⟨wr.heap.size, 1, none⟩ = some (.int .i64 (qS p k)) := by rw [cell_blk HQ.out]; rfl
      have HTQ := Lib.hid (htr k (by omega))
      have HCO := Lib.hid (fun W (h : IsTree W (B k) hi (ls k) (os k)) => show Calls Tryd.prog 23 #[.pointer (some ⟨B k, 0, none⟩), .int .i64 (qS p k)] W fun e w' => e = .returned (.tuple #[.int .i64 (costS (ls k) (qS p k)), .bool true]) ∧ W = w' from by
        have h2 := cost_any (B k) hi (ls k) (os k) (qS p k) W h
        rw [HS.out k hlt] at h2; exact h2)
      have k3 : (k : Int) < 5 := by omega
      have k4 : (0 : Int) ≤ (k : Int) := by omega
      clear hiw hGi hgb htr
      generalize costS (ls k) (qS p k) = cst at *
      go_quiet ((go_at_call 23; exact Calls.quiet_of_same ((HCO.out _ (by first | exact HTQ.out | exact HTQ.out.drewN _)).mono fun _ _ h => ⟨h.1, h.2.symm⟩)))
      go_wp2_with fail
      go_roundw
      case rel =>
        exact ⟨k + 1, by omega, by go_num, Lib.hid (pw_below_drewN HBq.out _), Lib.hid (by rw [heap_drewN]; exact HBKq.out)⟩
      case measure => simp [intOf]; omega
    · obtain rfl : k = j := by omega
      obtain ⟨c0, c1, c2, c3⟩ := partsV_at p k (by omega)
      rw [← cell_blk HBK.out] at c0 c1 c2 c3
      have k1 : decide ((k : Int) < 4) = true := decide_eq_true (by omega)
      have k2 : (k : Int) < 4 := by omega
      go_wp2_with fail
      have HBq := Lib.hid (HBr.out.alloc HBr.out.size (.cells #[.int .i64 k, .int .i64 (qS p k), .int .i64 0, .int .u32 0] 69))
      have HBKq := Lib.hid ((Mods.alloc (Mods.refl [] wr) (.cells #[.int .i64 k, .int .i64 (qS p k), .int .i64 0, .int .u32 0] 69)).blk HBK.out (by simp))
      have HQ := Lib.hid (alloc_new wr #[.int .i64 k, .int .i64 (qS p k), .int .i64 0, .int .u32 0] 69)
      clear c0 c1 c2 c3
      generalize wr.alloc (.cells #[.int .i64 k, .int .i64 (qS p k), .int .i64 0, .int .u32 0] 69) = wq at *
      obtain ⟨hiw, hGi, B, os, hgb, htr⟩ := HG.out.mods (Mods.of_below HBq.out []) (by simp)
      have hcg : wq.cell? ⟨G, k, none⟩ = some (.pointer (some ⟨B k, 0, none⟩)) := by
        rw [cell_blk hgb, trees_get B 5 k (by omega)]
        unfold tp; rw [if_pos (by omega)]
      have q0 : wq.cell? ⟨wr.heap.size, 0, none⟩ = some (.int .i64 k) := by rw [cell_blk HQ.out]; rfl
      have q1 : wq.cell? ⟨wr.heap.size, 1, none⟩ = some (.int .i64 (qS p k)) := by rw [cell_blk HQ.out]; rfl
      have HTQ := Lib.hid (htr k (by omega))
      have HCO := Lib.hid (fun W (h : IsTree W (B k) hi (ls k) (os k)) => show Calls Tryd.prog 23 #[.pointer (some ⟨B k, 0, none⟩), .int .i64 (qS p k)] W fun e w' => e = .returned (.tuple #[.int .i64 (costS (ls k) (qS p k)), .bool false]) ∧ W = w' from by
        have h2 := cost_any (B k) hi (ls k) (os k) (qS p k) W h
        rw [HNO.out] at h2; exact h2)
      have k3 : (k : Int) < 5 := by omega
      have k4 : (0 : Int) ≤ (k : Int) := by omega
      clear hiw hGi hgb htr
      generalize costS (ls k) (qS p k) = cst at *
      go_quiet ((go_at_call 23; exact Calls.quiet_of_same ((HCO.out _ (by first | exact HTQ.out | exact HTQ.out.drewN _)).mono fun _ _ h => ⟨h.1, h.2.symm⟩)))
      go_wp2_with fail
      go_ret
      exact ⟨rfl, pw_below_drewN HBq.out _⟩
end Go.Proofs.YtfeloicmkcfinaaDoor
