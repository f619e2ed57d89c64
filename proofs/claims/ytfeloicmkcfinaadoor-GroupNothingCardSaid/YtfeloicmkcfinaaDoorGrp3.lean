/- What package group does: a pixel that is read. -/
import Derived.Test.YtfeloicmkcfinaaDoorGrp2
import Derived.Test.YtfeloicmkcfinaaDoorLenQ
import Derived.Test.YtfeloicmkcfinaaDoorTokP
namespace Go.Proofs.YtfeloicmkcfinaaDoor
open Go.RowKit
open Go.Proofs.YtfeloicmkcfinaaDoorW.PrintWords
open Srt

theorem tree_read (B hi g : Nat) (ls os : List Int) (A : Option Addr) (bs : List Int) (p n s : Nat) (w : World) (ht : IsTree w B hi ls os) (hs : Sym ls bs p n s) (hp : p + n ≤ 8 * bs.length) (hg : hi ≤ g) (h : Rdr w g A bs p false) :
    Calls Tryd.prog 19 #[.pointer (some ⟨B, 0, none⟩), .pointer (some ⟨g, 0, none⟩)] w fun e w' => e = .returned (.tuple #[.int .i64 s, .int .i64 0]) ∧ Rdr w' g A bs (p + n) false ∧ Mods [g] w w' := by
  rcases hs with ⟨h1, rfl, hx⟩ | ⟨h1, hf⟩
  · refine (read_one B hi g ls os A bs p w ht h1 h).mono ?_
    rintro e w' ⟨rfl, rfl⟩
    rw [hx]
    exact ⟨rfl, h, Mods.refl _ _⟩
  · exact read_in B hi g ls os A bs p n s w ht h1 h hg hf hp

def mk32 (a r g b : Nat) : Nat := a * 16777216 + r * 65536 + g * 256 + b
theorem or_u32 (x y j : Nat) (hj : j ≤ 32) (hx : x * 2 ^ j < 2 ^ 32) (hy : y < 2 ^ j) : bits .or .u32 ((x * 2 ^ j : Nat) : Int) (y : Int) = ((x * 2 ^ j + y : Nat) : Int) := by
  have h1 : (2 : Nat) ^ j ≤ 2 ^ 32 := Nat.pow_le_pow_right (by decide) hj
  have h := (bits_nat .u32 32 (by decide) (fun n h0 h1 => by simp [IntKind.wrap, IntKind.bits, IntKind.signed]; omega) (x * 2 ^ j) y (by omega) (by omega)).2
  rw [h]
  have e := or_shift y x j hy
  rw [Nat.shiftLeft_eq] at e
  rw [Nat.or_comm, e]
  congr 1; omega
set_option maxHeartbeats 1000000 in
theorem make_any (a r g b : Nat) (w : World) (ha : a < 256) (hr : r < 256) (hg : g < 256) (hb : b < 256) :
    Calls Tryd.prog 32 #[.int .u8 a, .int .u8 r, .int .u8 g, .int .u8 b] w fun e w' => e = .returned (.int .u32 (mk32 a r g b)) ∧ w = w' := by
  have e1 : bits .or .u32 ((a : Int) * 16777216) ((r : Int) * 65536) = (a : Int) * 16777216 + (r : Int) * 65536 := by
    have h := or_u32 a (r * 65536) 24 (by omega) (by omega) (by omega)
    rw [show (((a * 2 ^ 24 : Nat)) : Int) = (a : Int) * 16777216 by omega, show (((r * 65536 : Nat)) : Int) = (r : Int) * 65536 by omega] at h
    rw [h]; omega
  have e2 : bits .or .u32 ((a : Int) * 16777216 + (r : Int) * 65536) ((g : Int) * 256) = (a : Int) * 16777216 + (r : Int) * 65536 + (g : Int) * 256 := by
    have h := or_u32 (a * 256 + r) (g * 256) 16 (by omega) (by omega) (by omega)
    rw [show ((((a * 256 + r) * 2 ^ 16 : Nat)) : Int) = (a : Int) * 16777216 + (r : Int) * 65536 by omega, show (((g * 256 : Nat)) : Int) = (g : Int) * 256 by omega] at h
    rw [h]; omega
  have e3 : bits .or .u32 ((a : Int) * 16777216 + (r : Int) * 65536 + (g : Int) * 256) (b : Int) = (mk32 a r g b : Int) := by
    have h := or_u32 (a * 65536 + r * 256 + g) b 8 (by omega) (by omega) (by omega)
    rw [show ((((a * 65536 + r * 256 + g) * 2 ^ 8 : Nat)) : Int) = (a : Int) * 16777216 + (r : Int) * 65536 + (g : Int) * 256 by omega] at h
    rw [h]; unfold mk32; omega
  have E1 := Lib.hid e1; have E2 := Lib.hid e2; have E3 := Lib.hid e3
  clear e1 e2 e3
  go_enter Tryd.func32, Tryd.ntmps32
  go_wp2_with fail
  rw [E1.out, E2.out, E3.out]
  go_ret
  exact ⟨rfl, rfl⟩

def litCells (s0 : Nat) (V : Nat → Nat) (k : Nat) : Array Value := #[.int .i64 s0, .int .i64 (if 0 < k then V 1 else 0 : Nat), .int .i64 (if 1 < k then V 2 else 0 : Nat), .int .i64 (if 2 < k then V 3 else 0 : Nat), .int .i64 0]
theorem litCells_set (s0 : Nat) (V : Nat → Nat) (k : Nat) (hk : k < 3) : (litCells s0 V k).setIfInBounds (k + 1) (.int .i64 (V (k + 1))) = litCells s0 V (k + 1) := by
  have hks : k = 0 ∨ k = 1 ∨ k = 2 := by omega
  rcases hks with rfl | rfl | rfl <;> simp [litCells]
theorem litCells_get (s0 : Nat) (V : Nat → Nat) (k : Nat) (hk : k < 3) : (litCells s0 V k)[k + 1]? = some (.int .i64 0) := by
  have hks : k = 0 ∨ k = 1 ∨ k = 2 := by omega
  rcases hks with rfl | rfl | rfl <;> simp [litCells]
theorem index_codes (k : Nat) (hk : k < 3) (W : World) : (Instr.index 84 (.agg #[.int .i64 1, .int .i64 2, .int .i64 3]) (.int .i64 k)).run Tryd.prog W = .ok (.int .i64 ((k : Int) + 1)) W := by
  have hks : k = 0 ∨ k = 1 ∨ k = 2 := by omega
  rcases hks with rfl | rfl | rfl <;> simp [Instr.index, run_underlying Tryd.underlying84, asIntOf, go_sem]
theorem size_token : (Tryd.prog.info? 39).map (·.size) = some 5 := by kernel_rfl
/-- The three symbols behind a green. -/
structure Three (ls : Nat → List Int) (bs : List Int) (P V : Nat → Nat) : Prop where
  sym : ∀ k, k < 3 → ∃ n, Sym (ls (k + 1)) bs (P k) n (V (k + 1)) ∧ P (k + 1) = P k + n
  room : ∀ k, k < 3 → P (k + 1) ≤ 8 * bs.length
  small : ∀ k, k < 3 → V (k + 1) < 256

set_option maxHeartbeats 4000000 in
theorem literal_good (G hi g : Nat) (ls : Nat → List Int) (A : Option Addr) (bs : List Int) (s0 : Nat) (P V : Nat → Nat) (w : World) (hG : IsGrp w G hi ls) (hg : hi ≤ g) (hA : ∀ ad, A = some ad → ad.block < w.heap.size) (hR : Rdr w g A bs (P 0) false) (h3 : Three ls bs P V) (h0 : s0 < 256) :
    Calls Tryd.prog 20 #[.pointer (some ⟨G, 0, none⟩), .pointer (some ⟨g, 0, none⟩), .int .i64 s0] w fun e w' => e = .returned (.tuple #[tkV (lit (mk32 (V 3) (V 1) s0 (V 2))), .int .i64 0]) ∧ Rdr w' g A bs (P 3) false ∧ Mods [g] w w' := by
  have HG := Lib.hid hG; have HA := Lib.hid hA; have HR := Lib.hid hR; have H3 := Lib.hid h3
  have hgw : g < w.heap.size := hR.lt
  clear hG hA hR h3
  go_enter Tryd.func20, Tryd.ntmps20
  go_wp2_with fail
  have hm0 : Mods [g] w ((w.alloc (.cells #[.int .i64 0, .int .i64 0, .int .i64 0, .int .i64 0, .int .u32 0] 39)).alloc (.cells #[.int .i64 s0, .int .i64 0, .int .i64 0, .int .i64 0, .int .i64 0] 50)) := ((Mods.refl [g] w).alloc _).alloc _
  have hx0 : ((w.alloc (.cells #[.int .i64 0, .int .i64 0, .int .i64 0, .int .i64 0, .int .u32 0] 39)).alloc (.cells #[.int .i64 s0, .int .i64 0, .int .i64 0, .int .i64 0, .int .i64 0] 50)).heap[w.heap.size + 1]? = some (.cells (litCells s0 V 0) 50 (0, 0)) := by
    have h := alloc_new (w.alloc (.cells #[.int .i64 0, .int .i64 0, .int .i64 0, .int .i64 0, .int .u32 0] 39)) #[.int .i64 s0, .int .i64 0, .int .i64 0, .int .i64 0, .int .i64 0] 50
    rw [show (w.alloc (.cells #[.int .i64 0, .int .i64 0, .int .i64 0, .int .i64 0, .int .u32 0] 39)).heap.size = w.heap.size + 1 from by simp] at h
    exact h
  have ht0 : ((w.alloc (.cells #[.int .i64 0, .int .i64 0, .int .i64 0, .int .i64 0, .int .u32 0] 39)).alloc (.cells #[.int .i64 s0, .int .i64 0, .int .i64 0, .int .i64 0, .int .i64 0] 50)).heap[w.heap.size]? = some (.cells #[.int .i64 0, .int .i64 0, .int .i64 0, .int .i64 0, .int .u32 0] 39 (0, 0)) := (Below.heap_alloc _ _ _ (by simp)).trans (alloc_new _ _ _)
  have hr0 := HR.out.mods (S := []) (w' := ((w.alloc (.cells #[.int .i64 0, .int .i64 0, .int .i64 0, .int .i64 0, .int .u32 0] 39)).alloc (.cells #[.int .i64 s0, .int .i64 0, .int .i64 0, .int .i64 0, .int .i64 0] 50))) (((Mods.refl [] w).alloc _).alloc _) (by simp) (by simp)
  have HM0 := Lib.hid hm0; have HX0 := Lib.hid hx0; have HT0 := Lib.hid ht0; have HR0 := Lib.hid hr0
  clear hm0 hx0 ht0 hr0
  generalize hw1 : (w.alloc (.cells #[.int .i64 0, .int .i64 0, .int .i64 0, .int .i64 0, .int .u32 0] 39)).alloc (.cells #[.int .i64 s0, .int .i64 0, .int .i64 0, .int .i64 0, .int .i64 0] 50) = w1 at *
  clear hw1
  have HGP := Lib.hid HG.out.1
  go_loopw [10, 11, 12, 16] (fun _ _ _ i wr => ∃ k : Nat, k ≤ 3 ∧ i = .int .i64 k ∧ Hid (wr.heap[w.heap.size + 1]? = some (.cells (litCells s0 V k) 50 (0, 0))) ∧ Hid (wr.heap[w.heap.size]? = some (.cells #[.int .i64 0, .int .i64 0, .int .i64 0, .int .i64 0, .int .u32 0] 39 (0, 0))) ∧ Hid (Rdr wr g A bs (P k) false) ∧ Hid (Mods [g] w wr)) (fun _ _ _ i _ => 3 - (intOf i).toNat)
  case atStart => exact ⟨0, by omega, rfl, HX0, HT0, HR0, HM0⟩
  case round =>
    clear HX0 HT0 HR0 HM0
    obtain ⟨k, hk, rfl, HX, HT, HRk, HM⟩ := hrel
    by_cases hlt : k < 3
    · obtain ⟨n, hsym, hpn⟩ := H3.out.sym k hlt
      have hroom := H3.out.room k hlt
      have HPN := Lib.hid hpn
      obtain ⟨m, hm⟩ : ∃ m, k + 1 = m := ⟨_, rfl⟩
      have hix : ∀ W, (Instr.index 84 (.agg #[.int .i64 1, .int .i64 2, .int .i64 3]) (.int .i64 k)).run Tryd.prog W = .ok (.int .i64 (m : Int)) W := fun W => by rw [index_codes k hlt W, ← hm]; rfl
      obtain ⟨hiw, hGi, B, os, hgb, htr⟩ := HG.out.mods HM.out (by simpa using hg)
      have hcg : wr.cell? ⟨G, m, none⟩ = some (.pointer (some ⟨B m, 0, none⟩)) := by
        rw [cell_blk hgb, trees_get B 5 m (by omega)]
        unfold tp; rw [if_pos (by omega)]
      have HTR := Lib.hid (tree_read (B m) hi g (ls m) (os m) A bs (P k) n (V m) wr (htr m (by omega)) (by rw [← hm]; exact hsym) (by omega) hg HRk.out)
      have hm5 : m < 5 := by omega
      have k1 : decide ((k : Int) < 3) = true := decide_eq_true (by omega)
      have k2 : (k : Int) < 3 := by omega
      have k3 : (m : Int) < 5 := by omega
      have hGw : G < w.heap.size := by have := HGP.out; omega
      have HMK := Lib.hid hm
      clear hsym hpn hm hgb htr hiw hGi hroom
      go_wp2_with fail
      refine HTR.out.mono ?_
      rintro e w2 ⟨rfl, hR2, hM2⟩
      have HX2 := Lib.hid (hM2.blk HX.out (by simp; omega))
      have HT2 := Lib.hid (hM2.blk HT.out (by simp; omega))
      have HM2 := Lib.hid (HM.out.trans hM2)
      have HR2 := Lib.hid hR2
      have hcx : w2.cell? ⟨w.heap.size + 1, m, none⟩ = some (.int .i64 0) := by rw [cell_blk HX2.out, ← HMK.out]; exact litCells_get s0 V k hlt
      have hfx : w2.frozen? ⟨w.heap.size + 1, m, none⟩ = false := free_blk HX2.out m
      clear hR2 hM2 hcg
      go_wp2_with fail
      go_roundw
      case rel =>
        have hmx : Mods [w.heap.size + 1] w2 (w2.setCell ⟨w.heap.size + 1, m, none⟩ (.int .i64 (V m))) := (Mods.refl _ w2).setCell (p := ⟨w.heap.size + 1, m, none⟩) (.inl (by simp)) _
        have g1 : Hid ((w2.setCell ⟨w.heap.size + 1, m, none⟩ (.int .i64 (V m))).heap[w.heap.size + 1]? = some (.cells (litCells s0 V (k + 1)) 50 (0, 0))) := Lib.hid (by rw [← litCells_set s0 V k hlt, HMK.out]; exact blk_set HX2.out m _)
        have g2 := Lib.hid (hmx.blk HT2.out (by simp))
        have g3 : Hid (Rdr (w2.setCell ⟨w.heap.size + 1, m, none⟩ (.int .i64 (V m))) g A bs (P (k + 1)) false) := Lib.hid (by rw [HPN.out]; exact HR2.out.mods hmx (by simp; omega) (fun ad h => by have := HA.out ad h; simp; omega))
        have g4 : Hid (Mods [g] w (w2.setCell ⟨w.heap.size + 1, m, none⟩ (.int .i64 (V m)))) := Lib.hid (HM2.out.setCell (p := ⟨w.heap.size + 1, m, none⟩) (.inr (by simp)) _)
        first | exact ⟨k + 1, by omega, by go_num, g1, g2, g3, g4⟩ | ((repeat apply Exists.intro); exact ⟨⟨k + 1, by omega, by go_num, g1, g2, g3, g4⟩, rfl⟩)
      case measure => simp [intOf]; omega
    · obtain rfl : k = 3 := by omega
      obtain ⟨x0, x1, x2, x3, x4⟩ := box5 (show wr.heap[w.heap.size + 1]? = some (.cells #[.int .i64 s0, .int .i64 (V 1), .int .i64 (V 2), .int .i64 (V 3), .int .i64 0] 50 (0, 0)) from HX.out)
      obtain ⟨y0, y1, y2, y3, y4⟩ := box5 HT.out
      obtain ⟨z0, z1, z2, z3, z4⟩ := box5f HT.out
      have s1 : V 1 < 256 := H3.out.small 0 (by omega)
      have s2 : V 2 < 256 := H3.out.small 1 (by omega)
      have s3 : V 3 < 256 := H3.out.small 2 (by omega)
      have j0 : IntKind.u8.wrap (s0 : Int) = (s0 : Int) := by simp [IntKind.wrap, IntKind.bits, IntKind.signed]; omega
      have j1 : IntKind.u8.wrap (V 1 : Int) = (V 1 : Int) := by simp [IntKind.wrap, IntKind.bits, IntKind.signed]; omega
      have j2 : IntKind.u8.wrap (V 2 : Int) = (V 2 : Int) := by simp [IntKind.wrap, IntKind.bits, IntKind.signed]; omega
      have j3 : IntKind.u8.wrap (V 3 : Int) = (V 3 : Int) := by simp [IntKind.wrap, IntKind.bits, IntKind.signed]; omega
      go_wp2_with fail
      refine (make_any (V 3) (V 1) s0 (V 2) wr s3 s1 h0 s2).mono ?_
      rintro e w' ⟨rfl, rfl⟩
      go_wp2_with fail
      refine bodyPost_ret (results_box rfl _ _ _ _ _ _ _ rfl (blk_set5 HT.out _ _ _ _ _) Tryd.underlying39 rfl size_token) rfl ?_
      have hm5 := mods_set5 w.heap.size wr (.int .i64 1) (.int .i64 0) (.int .i64 0) (.int .i64 0) (.int .u32 (mk32 (V 3) (V 1) s0 (V 2)))
      exact ⟨rfl, HRk.out.mods hm5 (by simp; omega) (fun ad h => by have := HA.out ad h; simp; omega), HM.out.trans_new hm5 (by simp)⟩

set_option maxHeartbeats 2000000 in
theorem step_lit (G hi g : Nat) (ls : Nat → List Int) (A : Option Addr) (bs : List Int) (n0 p s0 width : Nat) (P V : Nat → Nat) (w : World) (hG : IsGrp w G hi ls) (hg : hi ≤ g) (hA : ∀ ad, A = some ad → ad.block < w.heap.size) (hR : Rdr w g A bs p false) (hs : Sym (ls 0) bs p n0 s0) (hp : P 0 = p + n0) (hp8 : P 0 ≤ 8 * bs.length) (h3 : Three ls bs P V) (h0 : s0 < 256) (hw : 1 ≤ width ∧ width ≤ 16384) :
    Calls Tryd.prog 8 #[.pointer (some ⟨G, 0, none⟩), .pointer (some ⟨g, 0, none⟩), .int .i64 width] w fun e w' => e = .returned (.tuple #[tkV (lit (mk32 (V 3) (V 1) s0 (V 2))), .int .i64 0]) ∧ Rdr w' g A bs (P 3) false ∧ Mods [g] w w' := by
  have HG := Lib.hid hG; have HA := Lib.hid hA; have HR := Lib.hid hR; have H3 := Lib.hid h3; have HP := Lib.hid hp; have HS := Lib.hid hs; have HP8 := Lib.hid hp8
  have hgw : g < w.heap.size := hR.lt
  have HWD := Lib.hid (fun W => wide_in width W hw)
  have d0 : decide ((s0 : Int) < 256) = true := decide_eq_true (by omega)
  have hm0 : Mods [] w (w.alloc (.cells #[.int .i64 0, .int .i64 0, .int .i64 0, .int .i64 0, .int .u32 0] 39)) := (Mods.refl [] w).alloc _
  have HM0 := Lib.hid hm0
  have HT0 := Lib.hid (alloc_new w #[.int .i64 0, .int .i64 0, .int .i64 0, .int .i64 0, .int .u32 0] 39)
  have HR0 := Lib.hid (hR.mods hm0 (by simp) (by simp))
  have HGS := hG.1
  clear hG hA hR h3 hp hs hp8 hm0
  go_enter Tryd.func8, Tryd.ntmps8
  go_wp2_with fail
  generalize w.alloc (.cells #[.int .i64 0, .int .i64 0, .int .i64 0, .int .i64 0, .int .u32 0] 39) = w1 at *
  refine (HWD.out _).mono ?_
  rintro e w' ⟨rfl, rfl⟩
  obtain ⟨hiw, hGi, B, os, hgb, htr⟩ := HG.out.mods HM0.out (by simp)
  have hcg : w1.cell? ⟨G, 0, none⟩ = some (.pointer (some ⟨B 0, 0, none⟩)) := by
    rw [cell_blk hgb, trees_get B 5 0 (by omega)]
    unfold tp; rw [if_pos (by omega)]
  have HTR := Lib.hid (tree_read (B 0) hi g (ls 0) (os 0) A bs p n0 s0 w1 (htr 0 (by omega)) HS.out (by have := HP.out; have := HP8.out; omega) hg HR0.out)
  clear hgb htr hiw hGi
  go_wp2_with fail
  refine HTR.out.mono ?_
  rintro e w2 ⟨rfl, hR2, hM2⟩
  have HT2 := Lib.hid (hM2.blk HT0.out (by simp; omega))
  have HM2 := Lib.hid ((HM0.out.mono (R := [g]) (by simp)).trans hM2)
  have HR2 := Lib.hid (show Rdr w2 g A bs (P 0) false from by rw [HP.out]; exact hR2)
  clear hR2 hM2 hcg
  go_wp2_with fail
  refine (literal_good G hi g ls A bs s0 P V w2 (HG.out.mods HM2.out (by simpa using hg)) hg (fun ad h => by have h1 := HA.out ad h; have h2 := HM2.out.size; omega) HR2.out H3.out h0).mono ?_
  rintro e w3 ⟨rfl, hR3, hM3⟩
  have HT3 := Lib.hid (hM3.blk HT2.out (by simp; omega))
  have HM3 := Lib.hid (HM2.out.trans hM3)
  have HR3 := Lib.hid hR3
  clear hR3 hM3
  obtain ⟨y0, y1, y2, y3, y4⟩ := box5 HT3.out
  obtain ⟨z0, z1, z2, z3, z4⟩ := box5f HT3.out
  have HTK : Hid (tkV (lit (mk32 (V 3) (V 1) s0 (V 2))) = .agg #[.int .i64 1, .int .i64 0, .int .i64 0, .int .i64 0, .int .u32 (mk32 (V 3) (V 1) s0 (V 2))]) := Lib.hid rfl
  rw [HTK.out]
  go_wp2_with fail
  refine bodyPost_ret (results_box rfl _ _ _ _ _ _ _ rfl (blk_set5 HT3.out _ _ _ _ _) Tryd.underlying39 rfl size_token) rfl ?_
  have hm5 := mods_set5 w.heap.size w3 (.int .i64 1) (.int .i64 0) (.int .i64 0) (.int .i64 0) (.int .u32 (mk32 (V 3) (V 1) s0 (V 2)))
  exact ⟨rfl, HR3.out.mods hm5 (by simp; omega) (fun ad h => by have := HA.out ad h; simp; omega), HM3.out.trans_new hm5 (by simp)⟩
end Go.Proofs.YtfeloicmkcfinaaDoor
