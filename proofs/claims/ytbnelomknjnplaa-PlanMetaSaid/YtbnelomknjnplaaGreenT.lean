/- green.turn by pixel.Sub, green.Forth. (Printed by wip/tools/gengreen.py.) -/
import Derived.Test.YtbnelomknjnplaaBoxG
import Derived.Test.YtbnelomknjnplaaPixS
import Derived.Deep.RegionHeld3
import Derived.Deep.AppendLies
namespace Go.Proofs.Ytbnelomknjnplaa
open Go.RowKit
open Go.Proofs.YtbnelomknjnplaaW.PrintWords

theorem or_green : ∀ g : Fin 256, bits .or .u32 (bits .or .u32 (bits .or .u32 0 ((g.val : Int) * 65536)) 0) (g.val : Int) = (g.val : Int) * 65537 := by decide +kernel
theorem or_green' : ∀ g : Fin 256, bits .or .u32 ((g.val : Int) * 65536) (g.val : Int) = (g.val : Int) * 65537 := by decide +kernel
theorem makeG (g : Int) (w : World) (h0 : 0 ≤ g) (h1 : g < 256) : Calls Try.prog 65 #[.int .u8 0, .int .u8 g, .int .u8 0, .int .u8 g] w fun e w' => e = .returned (.int .u32 (g * 65537)) ∧ w = w' := by
  obtain ⟨q, rfl⟩ : ∃ q : Nat, g = q := ⟨g.toNat, by omega⟩
  have e1 := or_green ⟨q, by omega⟩
  have e1 : bits .or .u32 (bits .or .u32 (bits .or .u32 0 ((q : Int) * 65536)) 0) (q : Int) = (q : Int) * 65537 := e1
  have e2 : (q : Int) * 65536 % 4294967296 = (q : Int) * 65536 := by omega
  go_enter Try.func65, Try.ntmps65
  go_wp2_with fail
  go_ret
  exact ⟨by first | rfl | rw [e1] | (rw [e2, e1]) | (simp only [e2, e1]), rfl⟩
/-- A pixel less its green. -/
def greenP (p : Int) : Int := subP p (p / 256 % 256 * 65537)
abbrev subV : Value := .func (.func 43) #[] #[]
theorem green_bad (W H : Int) (A : Option Addr) (n c : Nat) (w : World) (hg : goodI W H n = false) : Calls Try.prog 48 #[.agg #[.int .i64 W, .int .i64 H, .slice A n c], subV] w fun e w' =>
    e = .returned (.tuple #[.agg #[.int .i64 0, .int .i64 0, .slice none 0 0], .int .i64 1]) ∧ Below w.heap.size w w' := by
  have HG := Lib.hid hg
  have hnew := alloc_new (w.alloc (.cells #[.int .i64 W, .int .i64 H, .slice A n c] 24)) #[.int .i64 0, .int .i64 0, .slice none 0 0] 24
  rw [World.size_alloc] at hnew
  have HNEW := Lib.hid hnew
  have hb0 := ((Below.refl _ w).alloc (Nat.le_refl _) (.cells #[.int .i64 W, .int .i64 H, .slice A n c] 24)).alloc (by simp) (.cells #[.int .i64 0, .int .i64 0, .slice none 0 0] 24)
  have HB0 := Lib.hid hb0
  clear hnew hb0 hg
  go_enter Try.func48, Try.ntmps48
  go_wp2_with fail
  refine (good_any W H A n c _).mono ?_
  rw [HG.out]
  rintro e w1 ⟨rfl, hB⟩
  have HPX := Lib.hid ((Mods.of_below hB []).blk HNEW.out (by simp))
  have HBB := Lib.hid (below_then HB0.out (by simp; omega) hB)
  obtain ⟨u0, u1, u2, g0, g1, g2⟩ := box3 HPX.out
  clear hB
  go_wp2_with fail
  refine bodyPost_ret (results_box rfl _ _ _ _ _ _ _ rfl (blk_set3 HPX.out _ _ _) Try.underlying24 rfl size_image) rfl ?_
  exact ⟨rfl, below_box HBB.out (by omega) _ _ _⟩

set_option maxHeartbeats 4000000 in
theorem green_good (W H : Int) (ad : Addr) (n c : Nat) (ps : List Int) (w : World) (HR : ReadsInt w .u32 (some ad) n ps) (hps : ∀ x ∈ ps, 0 ≤ x ∧ x < 4294967296) (hn0 : 0 < n) (hn : n ≤ 100000) (hg : goodI W H n = true) : Calls Try.prog 48 #[.agg #[.int .i64 W, .int .i64 H, .slice (some ad) n c], subV] w fun e w' =>
    Below w.heap.size w w' ∧ ∃ A2 c2, e = .returned (.tuple #[.agg #[.int .i64 W, .int .i64 H, .slice A2 n c2], .int .i64 0]) ∧ ReadsInt w' .u32 A2 n (ps.map greenP) ∧ (∀ a, A2 = some a → w.heap.size ≤ a.block) := by
  have HG := Lib.hid hg; have HPS := Lib.hid hps
  have hnew := alloc_new (w.alloc (.cells #[.int .i64 W, .int .i64 H, .slice (some ad) n c] 24)) #[.int .i64 0, .int .i64 0, .slice none 0 0] 24
  rw [World.size_alloc] at hnew
  have hnew0 := alloc_new w #[.int .i64 W, .int .i64 H, .slice (some ad) n c] 24
  have hb1 : Below (w.heap.size + 1) (w.alloc (.cells #[.int .i64 W, .int .i64 H, .slice (some ad) n c] 24)) ((w.alloc (.cells #[.int .i64 W, .int .i64 H, .slice (some ad) n c] 24)).alloc (.cells #[.int .i64 0, .int .i64 0, .slice none 0 0] 24)) := (Below.refl _ _).alloc (by simp) _
  have HM0 := Lib.hid (((hb1.block w.heap.size (by omega))).trans hnew0)
  have HNEW := Lib.hid hnew
  have hb0 := ((Below.refl _ w).alloc (Nat.le_refl _) (.cells #[.int .i64 W, .int .i64 H, .slice (some ad) n c] 24)).alloc (by simp) (.cells #[.int .i64 0, .int .i64 0, .slice none 0 0] 24)
  have HR0 := Lib.hid (HR.below (show Below w.heap.size w _ from hb0))
  have HB0 := Lib.hid hb0
  clear hnew hb0 hg hps HR hnew0 hb1
  go_enter Try.func48, Try.ntmps48
  go_wp2_with fail
  refine (good_any W H (some ad) n c _).mono ?_
  rw [HG.out]
  rintro e w1 ⟨rfl, hB⟩
  have HPX := Lib.hid ((Mods.of_below hB []).blk HNEW.out (by simp))
  have HMX := Lib.hid ((Mods.of_below hB []).blk HM0.out (by simp))
  have HR1 := Lib.hid (HR0.out.below hB)
  have HBB := Lib.hid (below_then HB0.out (by simp; omega) hB)
  have hz1 : w.heap.size + 2 ≤ w1.heap.size := by have := hB.size; simp at this; omega
  obtain ⟨m0, m1, m2, _, _, _⟩ := box3 HMX.out
  clear hB
  have m2a : ∀ o, (w1.alloc o).cell? ⟨w.heap.size, 2, none⟩ = some (.slice (some ad) n c) := fun o => pw_cell_below ((Below.refl _ _).alloc (Nat.le_refl _) o) m2
  go_wp2_with fail
  clear m0 m1 m2 m2a
  obtain ⟨Z, hZ⟩ : ∃ Z, w1.heap.size = Z := ⟨_, rfl⟩
  have HZ := Lib.hid hZ
  obtain ⟨f, hf⟩ : ∃ f : Nat → Int, f = fun t => greenP (ps.getD t 0) := ⟨_, rfl⟩
  have HF := Lib.hid hf
  have HBX0 := Lib.hid (show Below Z w1 (w1.alloc (.cells #[.int .i64 W, .int .i64 H, .slice none 0 0] 24)) from by rw [← hZ]; exact (Below.refl _ w1).alloc (Nat.le_refl _) _)
  have HC0 := Lib.hid (show (w1.alloc (.cells #[.int .i64 W, .int .i64 H, .slice none 0 0] 24)).heap[Z]? = some (.cells #[.int .i64 W, .int .i64 H, .slice none 0 0] 24 (0, 0)) from by rw [← hZ]; exact alloc_new _ _ _)
  clear hf
  rw [hZ]
  go_loopw [8, 9, 10, 11, 12, 25] (fun _ _ _ _ _ tv wr => ∃ (T : Nat) (v : Value), T ≤ n ∧ tv = .int .i64 T ∧ Hid (wr.heap[Z]? = some (.cells #[.int .i64 W, .int .i64 H, v] 24 (0, 0))) ∧ Hid (wr.ownsRow (Z + 1) 38 1 v T (nums .u32 ((List.range T).map f))) ∧ Z + 1 ≤ wr.heap.size ∧ Hid (Below Z w1 wr)) (fun _ _ _ _ _ tv _ => n - (intOf tv).toNat)
  case atStart => exact ⟨0, _, Nat.zero_le _, rfl, HC0.out, own_nil _ _ _ _, by simp; omega, HBX0.out⟩
  case round =>
    clear HC0 HBX0 hZ
    obtain ⟨T, v, hT, rfl, HC, HO, hsz, HBX⟩ := hrel
    have hbw : Below w1.heap.size w1 wr := by rw [HZ.out]; exact HBX.out
    by_cases hlt : T < n
    · have hpc := (HR1.out.below hbw).2.2 (by omega)
      obtain ⟨a2, h2, h3⟩ := hpc
      cases h2
      have hpx := h3 T hlt
      have hp := getD_room HPS.out T
      have hfT : greenP (ps.getD T 0) = f T := by rw [HF.out]
      obtain ⟨p, hpe⟩ : ∃ p, ps.getD T 0 = p := ⟨_, rfl⟩
      rw [hpe] at hpx hp hfT
      obtain ⟨g, hge⟩ : ∃ g, p / 256 % 256 = g := ⟨_, rfl⟩
      have hg0 : 0 ≤ g := by omega
      have hg1 : g < 256 := by omega
      obtain ⟨pv, hpv⟩ : ∃ pv, subP p (g * 65537) = pv := ⟨_, rfl⟩
      have hfT : pv = f T := by rw [← hfT]; unfold greenP; rw [hge, hpv]
      have HFT := Lib.hid hfT; have HPV := Lib.hid hpv; have HGE := Lib.hid hge
      have cv := (box3 HC.out).2.2.1
      have k1 : (T : Int) < (n : Int) := by omega
      have k2 : (0 : Int) ≤ (T : Int) := by omega
      clear hbw h3 hfT hpv hpe hge
      go_wp2_with fail
      refine (parts_any p _ hp.1 hp.2).mono ?_
      rintro e w' ⟨rfl, rfl⟩
      rw [HGE.out]
      go_wp2_with fail
      refine wp_region_noPanic ?_
      refine wp_region_held_drew (S := fun _ => True) (by kernel_rfl) trivial (fun hHeld => ?_)
      refine wpAnyH_take (i := 0) (oi := _) (v := ?_) (by simp only [List.getElem?_toArray, List.getElem?_cons_zero]; rfl) (by kernel_rfl) (by kernel_rfl) (by kernel_rfl) (fun _ _ _ h => h) (Or.inl ⟨by rfl, ?_⟩) hHeld ?_
      rotate_left 1
      · intro w hSw
        try dsimp only at hSw
        first | (go_simp; done) | (go_simp; with_reducible rfl)
      try simp only [Act.put, List.setIfInBounds_toArray, List.set_cons_zero, List.set_cons_succ]
      refine wpAnyH_take (i := 2) (oi := _) (v := ?_) (by simp only [List.getElem?_toArray, List.getElem?_cons_succ, List.getElem?_cons_zero]; rfl) (by kernel_rfl) (by kernel_rfl) (by kernel_rfl) (fun _ _ _ h => h) (Or.inl ⟨by rfl, ?_⟩) hHeld ?_
      rotate_left 1
      · intro w hSw
        try dsimp only at hSw
        first | (go_simp; done) | (go_simp; with_reducible rfl)
      try simp only [Act.put, List.setIfInBounds_toArray, List.set_cons_zero, List.set_cons_succ]
      refine wpAnyH_take (i := 3) (oi := _) (v := ?_) (by simp only [List.getElem?_toArray, List.getElem?_cons_succ, List.getElem?_cons_zero]; rfl) (by kernel_rfl) (by kernel_rfl) (by kernel_rfl) (fun _ _ _ h => h) (Or.inl ⟨by rfl, ?_⟩) hHeld ?_
      rotate_left 1
      · intro w hSw
        try dsimp only at hSw
        first | (go_simp; done) | (go_simp; with_reducible rfl)
      try simp only [Act.put, List.setIfInBounds_toArray, List.set_cons_zero, List.set_cons_succ]
      refine wpAnyH_take (i := 4) (oi := _) (v := ?_) (by simp only [List.getElem?_toArray, List.getElem?_cons_succ, List.getElem?_cons_zero]; rfl) (by kernel_rfl) (by kernel_rfl) (by kernel_rfl) (fun _ _ _ h => h) (Or.inl ⟨by rfl, ?_⟩) hHeld ?_
      rotate_left 1
      · intro w hSw
        try dsimp only at hSw
        first | (go_simp; done) | (go_simp; with_reducible rfl)
      try simp only [Act.put, List.setIfInBounds_toArray, List.set_cons_zero, List.set_cons_succ]
      refine wpAnyH_take (i := 5) (oi := _) (v := ?_) (by simp only [List.getElem?_toArray, List.getElem?_cons_succ, List.getElem?_cons_zero]; rfl) (by kernel_rfl) (by kernel_rfl) (by kernel_rfl) (fun _ _ _ h => h) (Or.inl ⟨by rfl, ?_⟩) hHeld ?_
      rotate_left 1
      · intro w hSw
        try dsimp only at hSw
        first | (go_simp; done) | (go_simp; with_reducible rfl)
      try simp only [Act.put, List.setIfInBounds_toArray, List.set_cons_zero, List.set_cons_succ]
      refine wpAnyH_ready (rs := [1, 6]) (by kernel_rfl) (by simp) ?_
      refine AllReadyH.cons (o := _) (by simp only [List.getElem?_toArray, List.getElem?_cons_succ, List.getElem?_cons_zero]; rfl) (fun K hK => ?_) ?_
      · go_simp
        refine hK.out _ _ trivial (fun hHeld2 => ?_)
        clear hK K hHeld
        have hHeld := hHeld2
        clear hHeld2
        try simp only [Act.put, List.setIfInBounds_toArray, List.set_cons_zero, List.set_cons_succ]
        refine wpAnyH_ready (rs := [6]) (by kernel_rfl) (by simp) ?_
        refine AllReadyH.cons (o := _) (by simp only [List.getElem?_toArray, List.getElem?_cons_succ, List.getElem?_cons_zero]; rfl) (fun K hK => ?_) ?_
        · go_simp
          refine (makeG g _ hg0 hg1).mono ?_
          rintro e wm0 ⟨rfl, rfl⟩
          refine hK.out _ _ trivial (fun hHeld2 => ?_)
          clear hK K hHeld
          have hHeld := hHeld2
          clear hHeld2
          try simp only [Act.put, List.setIfInBounds_toArray, List.set_cons_zero, List.set_cons_succ]
          refine wpAnyH_ready (rs := [7]) (by kernel_rfl) (by simp) ?_
          refine AllReadyH.cons (o := _) (by simp only [List.getElem?_toArray, List.getElem?_cons_succ, List.getElem?_cons_zero]; rfl) (fun K hK => ?_) ?_
          · go_simp
            refine (sub_any p (g * 65537) _ hp (by omega)).mono ?_
            rintro e wm ⟨rfl, hBm⟩
            rw [HPV.out]
            have HCm := Lib.hid ((Mods.of_below hBm []).blk (show wr.drew.heap[Z]? = _ from HC.out) (by simp))
            have HOm := Lib.hid (pw_own_below (show wr.drew.ownsRow _ _ _ _ _ _ from HO.out) hBm)
            have HBm := Lib.hid (below_then HBX.out.drew (Nat.le_of_succ_le hsz) hBm)
            have hsm : Z + 1 ≤ wm.heap.size := Nat.le_trans hsz hBm.size
            have cvm := (box3 HCm.out).2.2.1
            have cva : ∀ o, (wm.alloc o).cell? ⟨Z, 2, none⟩ = some v := fun o => pw_cell_below ((Below.refl _ _).alloc (Nat.le_refl _) o) cvm
            clear hBm
            refine hK.out _ _ trivial (fun hHeld2 => ?_)
            clear hK K hHeld
            have hHeld := hHeld2
            clear hHeld2
            try simp only [Act.put, List.setIfInBounds_toArray, List.set_cons_zero, List.set_cons_succ]
            refine wpAnyH_ready (rs := [8]) (by kernel_rfl) (by simp) ?_
            refine AllReadyH.cons (o := _) (by simp only [List.getElem?_toArray, List.getElem?_cons_succ, List.getElem?_cons_zero]; rfl) (fun K hK => ?_) ?_
            · go_simp
              refine hK.out _ _ trivial (fun hHeld2 => ?_)
              clear hK K hHeld
              have hHeld := hHeld2
              clear hHeld2
              try simp only [Act.put, List.setIfInBounds_toArray, List.set_cons_zero, List.set_cons_succ]
              refine wpAnyH_ready (rs := [9]) (by kernel_rfl) (by simp) ?_
              refine AllReadyH.cons (o := _) (by simp only [List.getElem?_toArray, List.getElem?_cons_succ, List.getElem?_cons_zero]; rfl) (fun K hK => ?_) ?_
              · obtain ⟨i0, hi, hz0, hz1, hz2⟩ := info_parts info_u32
                refine step_append_lies _ (by rfl) _ _ 22 (by rfl) (Z + 1) 38 i0 (.int .u32 0) 1 4 Try.underlying22 hi hz0 hz1 hz2 (by rfl) (by decide) v T (nums .u32 ((List.range T).map f)) (by rfl) (HOm.out.alloc _) ⟨wm.heap.size, 0, none⟩ 1 1 [.int .u32 pv] (by rfl) (by rfl) (World.news_of_block (alloc_new _ _ _)) (by simp; rfl) (by decide) (by unfold maxLen; omega) (by omega) (by simp; omega) _ (by rfl) ?_
                intro g1 cap w4 hown hgr hat hgl
                have hc4 := box_grown ((Mods.of_below ((Below.refl _ wm).alloc (Nat.le_refl _) (.cells #[.int .u32 pv] 38)) []).blk HCm.out (by simp)) (HOm.out.alloc (.cells #[.int .u32 pv] 38)) hgr
                obtain ⟨_, _, w2c, _, _, w2f⟩ := box3 hc4
                have HC4 := Lib.hid hc4
                have HOW := Lib.hid hown
                have HGR := Lib.hid hgr
                clear hc4 hown hgr hat
                refine hK.out _ _ trivial (fun hHeld2 => ?_)
                clear hK K hHeld
                have hHeld := hHeld2
                clear hHeld2
                try simp only [Act.put, List.setIfInBounds_toArray, List.set_cons_zero, List.set_cons_succ]
                refine wpAnyH_take (i := 10) (oi := _) (v := ?_) (by simp only [List.getElem?_toArray, List.getElem?_cons_succ, List.getElem?_cons_zero]; rfl) (by kernel_rfl) (by kernel_rfl) (by kernel_rfl) (fun _ _ _ h => h) (Or.inl ⟨by rfl, ?_⟩) hHeld ?_
                rotate_left 1
                · intro w hSw
                  try dsimp only at hSw
                  first | (go_simp; done) | (go_simp; with_reducible rfl)
                try simp only [Act.put, List.setIfInBounds_toArray, List.set_cons_zero, List.set_cons_succ]
                refine wpAnyH_ready (rs := [11]) (by kernel_rfl) (by simp) ?_
                refine AllReadyH.cons (o := _) (by simp only [List.getElem?_toArray, List.getElem?_cons_succ, List.getElem?_cons_zero]; rfl) (fun K hK => ?_) ?_
                · go_simp
                  refine hK.out _ _ trivial (fun hHeld2 => ?_)
                  clear hK K hHeld
                  have hHeld := hHeld2
                  clear hHeld2
                  try simp only [Act.put, List.setIfInBounds_toArray, List.set_cons_zero, List.set_cons_succ]
                  refine wpAnyH_done (by kernel_rfl) ?_ _
                  refine NoPanic.normal ?_
                  obtain ⟨g1', c1', he, hg1, _⟩ := some_own HOW.out (by omega)
                  cases he
                  have hli : nums .u32 ((List.range T).map f) ++ [Value.int .u32 pv] = nums .u32 ((List.range (T + 1)).map f) := by rw [← fill_more HFT.out]; simp [nums]
                  have how := HOW.out
                  rw [hli] at how
                  have HNX := Lib.hid (blk_set HC4.out 2 (.slice (some ⟨g1, 0, none⟩) (T + 1) cap))
                  have HNO := Lib.hid (own_store how hg1 (.slice (some ⟨g1, 0, none⟩) (T + 1) cap))
                  have HBZ := Lib.hid (((HBm.out.alloc (by omega) (.cells #[.int .u32 pv] 38)).grown HGR.out (by simp; omega) (fun r hr => by have := own_rows HOm.out r hr; omega)).setCell (p := ⟨Z, 2, none⟩) (Nat.le_refl _) (.slice (some ⟨g1, 0, none⟩) (T + 1) cap))
                  have hns : Z + 1 ≤ (w4.setCell ⟨Z, 2, none⟩ (.slice (some ⟨g1, 0, none⟩) (T + 1) cap)).heap.size := by have := blk_lt HC4.out; simp [World.setCell]; omega
                  clear hli how
                  go_wp2_with fail
                  go_roundw
                  case rel => exact ⟨T + 1, _, by omega, by go_num, HNX.out, HNO.out, hns, HBZ.out⟩
                  case measure => simp [intOf]; omega
                exact AllReadyH.nil
              exact AllReadyH.nil
            exact AllReadyH.nil
          exact AllReadyH.nil
        exact AllReadyH.nil
      refine AllReadyH.cons (o := _) (by simp only [List.getElem?_toArray, List.getElem?_cons_succ, List.getElem?_cons_zero]; rfl) (fun K hK => ?_) ?_
      · go_simp
        refine (makeG g _ hg0 hg1).mono ?_
        rintro e wm0 ⟨rfl, rfl⟩
        refine hK.out _ _ trivial (fun hHeld2 => ?_)
        clear hK K hHeld
        have hHeld := hHeld2
        clear hHeld2
        try simp only [Act.put, List.setIfInBounds_toArray, List.set_cons_zero, List.set_cons_succ]
        refine wpAnyH_ready (rs := [1, 7]) (by kernel_rfl) (by simp) ?_
        refine AllReadyH.cons (o := _) (by simp only [List.getElem?_toArray, List.getElem?_cons_succ, List.getElem?_cons_zero]; rfl) (fun K hK => ?_) ?_
        · go_simp
          refine hK.out _ _ trivial (fun hHeld2 => ?_)
          clear hK K hHeld
          have hHeld := hHeld2
          clear hHeld2
          try simp only [Act.put, List.setIfInBounds_toArray, List.set_cons_zero, List.set_cons_succ]
          refine wpAnyH_ready (rs := [7]) (by kernel_rfl) (by simp) ?_
          refine AllReadyH.cons (o := _) (by simp only [List.getElem?_toArray, List.getElem?_cons_succ, List.getElem?_cons_zero]; rfl) (fun K hK => ?_) ?_
          · go_simp
            refine (sub_any p (g * 65537) _ hp (by omega)).mono ?_
            rintro e wm ⟨rfl, hBm⟩
            rw [HPV.out]
            have HCm := Lib.hid ((Mods.of_below hBm []).blk (show wr.drew.heap[Z]? = _ from HC.out) (by simp))
            have HOm := Lib.hid (pw_own_below (show wr.drew.ownsRow _ _ _ _ _ _ from HO.out) hBm)
            have HBm := Lib.hid (below_then HBX.out.drew (Nat.le_of_succ_le hsz) hBm)
            have hsm : Z + 1 ≤ wm.heap.size := Nat.le_trans hsz hBm.size
            have cvm := (box3 HCm.out).2.2.1
            have cva : ∀ o, (wm.alloc o).cell? ⟨Z, 2, none⟩ = some v := fun o => pw_cell_below ((Below.refl _ _).alloc (Nat.le_refl _) o) cvm
            clear hBm
            refine hK.out _ _ trivial (fun hHeld2 => ?_)
            clear hK K hHeld
            have hHeld := hHeld2
            clear hHeld2
            try simp only [Act.put, List.setIfInBounds_toArray, List.set_cons_zero, List.set_cons_succ]
            refine wpAnyH_ready (rs := [8]) (by kernel_rfl) (by simp) ?_
            refine AllReadyH.cons (o := _) (by simp only [List.getElem?_toArray, List.getElem?_cons_succ, List.getElem?_cons_zero]; rfl) (fun K hK => ?_) ?_
            · go_simp
              refine hK.out _ _ trivial (fun hHeld2 => ?_)
              clear hK K hHeld
              have hHeld := hHeld2
              clear hHeld2
              try simp only [Act.put, List.setIfInBounds_toArray, List.set_cons_zero, List.set_cons_succ]
              refine wpAnyH_ready (rs := [9]) (by kernel_rfl) (by simp) ?_
              refine AllReadyH.cons (o := _) (by simp only [List.getElem?_toArray, List.getElem?_cons_succ, List.getElem?_cons_zero]; rfl) (fun K hK => ?_) ?_
              · obtain ⟨i0, hi, hz0, hz1, hz2⟩ := info_parts info_u32
                refine step_append_lies _ (by rfl) _ _ 22 (by rfl) (Z + 1) 38 i0 (.int .u32 0) 1 4 Try.underlying22 hi hz0 hz1 hz2 (by rfl) (by decide) v T (nums .u32 ((List.range T).map f)) (by rfl) (HOm.out.alloc _) ⟨wm.heap.size, 0, none⟩ 1 1 [.int .u32 pv] (by rfl) (by rfl) (World.news_of_block (alloc_new _ _ _)) (by simp; rfl) (by decide) (by unfold maxLen; omega) (by omega) (by simp; omega) _ (by rfl) ?_
                intro g1 cap w4 hown hgr hat hgl
                have hc4 := box_grown ((Mods.of_below ((Below.refl _ wm).alloc (Nat.le_refl _) (.cells #[.int .u32 pv] 38)) []).blk HCm.out (by simp)) (HOm.out.alloc (.cells #[.int .u32 pv] 38)) hgr
                obtain ⟨_, _, w2c, _, _, w2f⟩ := box3 hc4
                have HC4 := Lib.hid hc4
                have HOW := Lib.hid hown
                have HGR := Lib.hid hgr
                clear hc4 hown hgr hat
                refine hK.out _ _ trivial (fun hHeld2 => ?_)
                clear hK K hHeld
                have hHeld := hHeld2
                clear hHeld2
                try simp only [Act.put, List.setIfInBounds_toArray, List.set_cons_zero, List.set_cons_succ]
                refine wpAnyH_take (i := 10) (oi := _) (v := ?_) (by simp only [List.getElem?_toArray, List.getElem?_cons_succ, List.getElem?_cons_zero]; rfl) (by kernel_rfl) (by kernel_rfl) (by kernel_rfl) (fun _ _ _ h => h) (Or.inl ⟨by rfl, ?_⟩) hHeld ?_
                rotate_left 1
                · intro w hSw
                  try dsimp only at hSw
                  first | (go_simp; done) | (go_simp; with_reducible rfl)
                try simp only [Act.put, List.setIfInBounds_toArray, List.set_cons_zero, List.set_cons_succ]
                refine wpAnyH_ready (rs := [11]) (by kernel_rfl) (by simp) ?_
                refine AllReadyH.cons (o := _) (by simp only [List.getElem?_toArray, List.getElem?_cons_succ, List.getElem?_cons_zero]; rfl) (fun K hK => ?_) ?_
                · go_simp
                  refine hK.out _ _ trivial (fun hHeld2 => ?_)
                  clear hK K hHeld
                  have hHeld := hHeld2
                  clear hHeld2
                  try simp only [Act.put, List.setIfInBounds_toArray, List.set_cons_zero, List.set_cons_succ]
                  refine wpAnyH_done (by kernel_rfl) ?_ _
                  refine NoPanic.normal ?_
                  obtain ⟨g1', c1', he, hg1, _⟩ := some_own HOW.out (by omega)
                  cases he
                  have hli : nums .u32 ((List.range T).map f) ++ [Value.int .u32 pv] = nums .u32 ((List.range (T + 1)).map f) := by rw [← fill_more HFT.out]; simp [nums]
                  have how := HOW.out
                  rw [hli] at how
                  have HNX := Lib.hid (blk_set HC4.out 2 (.slice (some ⟨g1, 0, none⟩) (T + 1) cap))
                  have HNO := Lib.hid (own_store how hg1 (.slice (some ⟨g1, 0, none⟩) (T + 1) cap))
                  have HBZ := Lib.hid (((HBm.out.alloc (by omega) (.cells #[.int .u32 pv] 38)).grown HGR.out (by simp; omega) (fun r hr => by have := own_rows HOm.out r hr; omega)).setCell (p := ⟨Z, 2, none⟩) (Nat.le_refl _) (.slice (some ⟨g1, 0, none⟩) (T + 1) cap))
                  have hns : Z + 1 ≤ (w4.setCell ⟨Z, 2, none⟩ (.slice (some ⟨g1, 0, none⟩) (T + 1) cap)).heap.size := by have := blk_lt HC4.out; simp [World.setCell]; omega
                  clear hli how
                  go_wp2_with fail
                  go_roundw
                  case rel => exact ⟨T + 1, _, by omega, by go_num, HNX.out, HNO.out, hns, HBZ.out⟩
                  case measure => simp [intOf]; omega
                exact AllReadyH.nil
              exact AllReadyH.nil
            exact AllReadyH.nil
          exact AllReadyH.nil
        refine AllReadyH.cons (o := _) (by simp only [List.getElem?_toArray, List.getElem?_cons_succ, List.getElem?_cons_zero]; rfl) (fun K hK => ?_) ?_
        · go_simp
          refine (sub_any p (g * 65537) _ hp (by omega)).mono ?_
          rintro e wm ⟨rfl, hBm⟩
          rw [HPV.out]
          have HCm := Lib.hid ((Mods.of_below hBm []).blk (show wr.drew.heap[Z]? = _ from HC.out) (by simp))
          have HOm := Lib.hid (pw_own_below (show wr.drew.ownsRow _ _ _ _ _ _ from HO.out) hBm)
          have HBm := Lib.hid (below_then HBX.out.drew (Nat.le_of_succ_le hsz) hBm)
          have hsm : Z + 1 ≤ wm.heap.size := Nat.le_trans hsz hBm.size
          have cvm := (box3 HCm.out).2.2.1
          have cva : ∀ o, (wm.alloc o).cell? ⟨Z, 2, none⟩ = some v := fun o => pw_cell_below ((Below.refl _ _).alloc (Nat.le_refl _) o) cvm
          clear hBm
          refine hK.out _ _ trivial (fun hHeld2 => ?_)
          clear hK K hHeld
          have hHeld := hHeld2
          clear hHeld2
          try simp only [Act.put, List.setIfInBounds_toArray, List.set_cons_zero, List.set_cons_succ]
          refine wpAnyH_ready (rs := [1, 8]) (by kernel_rfl) (by simp) ?_
          refine AllReadyH.cons (o := _) (by simp only [List.getElem?_toArray, List.getElem?_cons_succ, List.getElem?_cons_zero]; rfl) (fun K hK => ?_) ?_
          · go_simp
            refine hK.out _ _ trivial (fun hHeld2 => ?_)
            clear hK K hHeld
            have hHeld := hHeld2
            clear hHeld2
            try simp only [Act.put, List.setIfInBounds_toArray, List.set_cons_zero, List.set_cons_succ]
            refine wpAnyH_ready (rs := [8]) (by kernel_rfl) (by simp) ?_
            refine AllReadyH.cons (o := _) (by simp only [List.getElem?_toArray, List.getElem?_cons_succ, List.getElem?_cons_zero]; rfl) (fun K hK => ?_) ?_
            · go_simp
              refine hK.out _ _ trivial (fun hHeld2 => ?_)
              clear hK K hHeld
              have hHeld := hHeld2
              clear hHeld2
              try simp only [Act.put, List.setIfInBounds_toArray, List.set_cons_zero, List.set_cons_succ]
              refine wpAnyH_ready (rs := [9]) (by kernel_rfl) (by simp) ?_
              refine AllReadyH.cons (o := _) (by simp only [List.getElem?_toArray, List.getElem?_cons_succ, List.getElem?_cons_zero]; rfl) (fun K hK => ?_) ?_
              · obtain ⟨i0, hi, hz0, hz1, hz2⟩ := info_parts info_u32
                refine step_append_lies _ (by rfl) _ _ 22 (by rfl) (Z + 1) 38 i0 (.int .u32 0) 1 4 Try.underlying22 hi hz0 hz1 hz2 (by rfl) (by decide) v T (nums .u32 ((List.range T).map f)) (by rfl) (HOm.out.alloc _) ⟨wm.heap.size, 0, none⟩ 1 1 [.int .u32 pv] (by rfl) (by rfl) (World.news_of_block (alloc_new _ _ _)) (by simp; rfl) (by decide) (by unfold maxLen; omega) (by omega) (by simp; omega) _ (by rfl) ?_
                intro g1 cap w4 hown hgr hat hgl
                have hc4 := box_grown ((Mods.of_below ((Below.refl _ wm).alloc (Nat.le_refl _) (.cells #[.int .u32 pv] 38)) []).blk HCm.out (by simp)) (HOm.out.alloc (.cells #[.int .u32 pv] 38)) hgr
                obtain ⟨_, _, w2c, _, _, w2f⟩ := box3 hc4
                have HC4 := Lib.hid hc4
                have HOW := Lib.hid hown
                have HGR := Lib.hid hgr
                clear hc4 hown hgr hat
                refine hK.out _ _ trivial (fun hHeld2 => ?_)
                clear hK K hHeld
                have hHeld := hHeld2
                clear hHeld2
                try simp only [Act.put, List.setIfInBounds_toArray, List.set_cons_zero, List.set_cons_succ]
                refine wpAnyH_take (i := 10) (oi := _) (v := ?_) (by simp only [List.getElem?_toArray, List.getElem?_cons_succ, List.getElem?_cons_zero]; rfl) (by kernel_rfl) (by kernel_rfl) (by kernel_rfl) (fun _ _ _ h => h) (Or.inl ⟨by rfl, ?_⟩) hHeld ?_
                rotate_left 1
                · intro w hSw
                  try dsimp only at hSw
                  first | (go_simp; done) | (go_simp; with_reducible rfl)
                try simp only [Act.put, List.setIfInBounds_toArray, List.set_cons_zero, List.set_cons_succ]
                refine wpAnyH_ready (rs := [11]) (by kernel_rfl) (by simp) ?_
                refine AllReadyH.cons (o := _) (by simp only [List.getElem?_toArray, List.getElem?_cons_succ, List.getElem?_cons_zero]; rfl) (fun K hK => ?_) ?_
                · go_simp
                  refine hK.out _ _ trivial (fun hHeld2 => ?_)
                  clear hK K hHeld
                  have hHeld := hHeld2
                  clear hHeld2
                  try simp only [Act.put, List.setIfInBounds_toArray, List.set_cons_zero, List.set_cons_succ]
                  refine wpAnyH_done (by kernel_rfl) ?_ _
                  refine NoPanic.normal ?_
                  obtain ⟨g1', c1', he, hg1, _⟩ := some_own HOW.out (by omega)
                  cases he
                  have hli : nums .u32 ((List.range T).map f) ++ [Value.int .u32 pv] = nums .u32 ((List.range (T + 1)).map f) := by rw [← fill_more HFT.out]; simp [nums]
                  have how := HOW.out
                  rw [hli] at how
                  have HNX := Lib.hid (blk_set HC4.out 2 (.slice (some ⟨g1, 0, none⟩) (T + 1) cap))
                  have HNO := Lib.hid (own_store how hg1 (.slice (some ⟨g1, 0, none⟩) (T + 1) cap))
                  have HBZ := Lib.hid (((HBm.out.alloc (by omega) (.cells #[.int .u32 pv] 38)).grown HGR.out (by simp; omega) (fun r hr => by have := own_rows HOm.out r hr; omega)).setCell (p := ⟨Z, 2, none⟩) (Nat.le_refl _) (.slice (some ⟨g1, 0, none⟩) (T + 1) cap))
                  have hns : Z + 1 ≤ (w4.setCell ⟨Z, 2, none⟩ (.slice (some ⟨g1, 0, none⟩) (T + 1) cap)).heap.size := by have := blk_lt HC4.out; simp [World.setCell]; omega
                  clear hli how
                  go_wp2_with fail
                  go_roundw
                  case rel => exact ⟨T + 1, _, by omega, by go_num, HNX.out, HNO.out, hns, HBZ.out⟩
                  case measure => simp [intOf]; omega
                exact AllReadyH.nil
              exact AllReadyH.nil
            exact AllReadyH.nil
          refine AllReadyH.cons (o := _) (by simp only [List.getElem?_toArray, List.getElem?_cons_succ, List.getElem?_cons_zero]; rfl) (fun K hK => ?_) ?_
          · go_simp
            refine hK.out _ _ trivial (fun hHeld2 => ?_)
            clear hK K hHeld
            have hHeld := hHeld2
            clear hHeld2
            try simp only [Act.put, List.setIfInBounds_toArray, List.set_cons_zero, List.set_cons_succ]
            refine wpAnyH_ready (rs := [1]) (by kernel_rfl) (by simp) ?_
            refine AllReadyH.cons (o := _) (by simp only [List.getElem?_toArray, List.getElem?_cons_succ, List.getElem?_cons_zero]; rfl) (fun K hK => ?_) ?_
            · go_simp
              refine hK.out _ _ trivial (fun hHeld2 => ?_)
              clear hK K hHeld
              have hHeld := hHeld2
              clear hHeld2
              try simp only [Act.put, List.setIfInBounds_toArray, List.set_cons_zero, List.set_cons_succ]
              refine wpAnyH_ready (rs := [9]) (by kernel_rfl) (by simp) ?_
              refine AllReadyH.cons (o := _) (by simp only [List.getElem?_toArray, List.getElem?_cons_succ, List.getElem?_cons_zero]; rfl) (fun K hK => ?_) ?_
              · obtain ⟨i0, hi, hz0, hz1, hz2⟩ := info_parts info_u32
                refine step_append_lies _ (by rfl) _ _ 22 (by rfl) (Z + 1) 38 i0 (.int .u32 0) 1 4 Try.underlying22 hi hz0 hz1 hz2 (by rfl) (by decide) v T (nums .u32 ((List.range T).map f)) (by rfl) (HOm.out.alloc _) ⟨wm.heap.size, 0, none⟩ 1 1 [.int .u32 pv] (by rfl) (by rfl) (World.news_of_block (alloc_new _ _ _)) (by simp; rfl) (by decide) (by unfold maxLen; omega) (by omega) (by simp; omega) _ (by rfl) ?_
                intro g1 cap w4 hown hgr hat hgl
                have hc4 := box_grown ((Mods.of_below ((Below.refl _ wm).alloc (Nat.le_refl _) (.cells #[.int .u32 pv] 38)) []).blk HCm.out (by simp)) (HOm.out.alloc (.cells #[.int .u32 pv] 38)) hgr
                obtain ⟨_, _, w2c, _, _, w2f⟩ := box3 hc4
                have HC4 := Lib.hid hc4
                have HOW := Lib.hid hown
                have HGR := Lib.hid hgr
                clear hc4 hown hgr hat
                refine hK.out _ _ trivial (fun hHeld2 => ?_)
                clear hK K hHeld
                have hHeld := hHeld2
                clear hHeld2
                try simp only [Act.put, List.setIfInBounds_toArray, List.set_cons_zero, List.set_cons_succ]
                refine wpAnyH_take (i := 10) (oi := _) (v := ?_) (by simp only [List.getElem?_toArray, List.getElem?_cons_succ, List.getElem?_cons_zero]; rfl) (by kernel_rfl) (by kernel_rfl) (by kernel_rfl) (fun _ _ _ h => h) (Or.inl ⟨by rfl, ?_⟩) hHeld ?_
                rotate_left 1
                · intro w hSw
                  try dsimp only at hSw
                  first | (go_simp; done) | (go_simp; with_reducible rfl)
                try simp only [Act.put, List.setIfInBounds_toArray, List.set_cons_zero, List.set_cons_succ]
                refine wpAnyH_ready (rs := [11]) (by kernel_rfl) (by simp) ?_
                refine AllReadyH.cons (o := _) (by simp only [List.getElem?_toArray, List.getElem?_cons_succ, List.getElem?_cons_zero]; rfl) (fun K hK => ?_) ?_
                · go_simp
                  refine hK.out _ _ trivial (fun hHeld2 => ?_)
                  clear hK K hHeld
                  have hHeld := hHeld2
                  clear hHeld2
                  try simp only [Act.put, List.setIfInBounds_toArray, List.set_cons_zero, List.set_cons_succ]
                  refine wpAnyH_done (by kernel_rfl) ?_ _
                  refine NoPanic.normal ?_
                  obtain ⟨g1', c1', he, hg1, _⟩ := some_own HOW.out (by omega)
                  cases he
                  have hli : nums .u32 ((List.range T).map f) ++ [Value.int .u32 pv] = nums .u32 ((List.range (T + 1)).map f) := by rw [← fill_more HFT.out]; simp [nums]
                  have how := HOW.out
                  rw [hli] at how
                  have HNX := Lib.hid (blk_set HC4.out 2 (.slice (some ⟨g1, 0, none⟩) (T + 1) cap))
                  have HNO := Lib.hid (own_store how hg1 (.slice (some ⟨g1, 0, none⟩) (T + 1) cap))
                  have HBZ := Lib.hid (((HBm.out.alloc (by omega) (.cells #[.int .u32 pv] 38)).grown HGR.out (by simp; omega) (fun r hr => by have := own_rows HOm.out r hr; omega)).setCell (p := ⟨Z, 2, none⟩) (Nat.le_refl _) (.slice (some ⟨g1, 0, none⟩) (T + 1) cap))
                  have hns : Z + 1 ≤ (w4.setCell ⟨Z, 2, none⟩ (.slice (some ⟨g1, 0, none⟩) (T + 1) cap)).heap.size := by have := blk_lt HC4.out; simp [World.setCell]; omega
                  clear hli how
                  go_wp2_with fail
                  go_roundw
                  case rel => exact ⟨T + 1, _, by omega, by go_num, HNX.out, HNO.out, hns, HBZ.out⟩
                  case measure => simp [intOf]; omega
                exact AllReadyH.nil
              exact AllReadyH.nil
            exact AllReadyH.nil
          exact AllReadyH.nil
        exact AllReadyH.nil
      exact AllReadyH.nil
    · obtain rfl : T = n := by omega
      have hq := (Mods.of_below hbw []).blk HPX.out (by simp)
      have HPQ := Lib.hid hq
      obtain ⟨b0, b1, b2, _, _, _⟩ := box3 HC.out
      obtain ⟨u0, u1, u2, g0, g1, g2⟩ := box3 HPQ.out
      have HBW := Lib.hid hbw
      clear hq hbw
      have hform : ∃ A2 c2, v = .slice A2 T c2 ∧ ReadsInt wr .u32 A2 T ((List.range T).map f) := own_reads HO.out
      obtain ⟨A2, c2, rfl, hrd⟩ := hform
      have hmap : (List.range T).map f = ps.map greenP := by
        have hl : ps.length = T := HR1.out.1
        rw [HF.out]
        apply List.ext_getElem (by simp [hl])
        intro i h1 h2
        simp only [List.getElem_map, List.getElem_range]
        rw [List.getD_eq_getElem?_getD, List.getElem?_eq_getElem (by simpa using h2)]; rfl
      rw [hmap] at hrd
      have hnb : ∀ a, A2 = some a → a.block ∉ [w.heap.size + 1] := fun a ha => by
        have := own_rows HO.out a.block (by rw [ha]; rfl)
        have := HZ.out
        simp; omega
      have HFR := Lib.hid (show ∀ a, A2 = some a → w.heap.size ≤ a.block from fun a ha => by
        have := own_rows HO.out a.block (by rw [ha]; rfl)
        have := HZ.out
        omega)
      have HRD := Lib.hid (ReadsInt.mods hrd (mods_box (w.heap.size + 1) wr (.int .i64 W) (.int .i64 H) (.slice A2 T c2)) hnb)
      clear hrd hmap hnb
      go_wp2_with fail
      refine bodyPost_ret (results_box rfl _ _ _ _ _ _ _ rfl (blk_set3 HPQ.out _ _ _) Try.underlying24 rfl size_image) rfl ?_
      exact ⟨below_box (below_then HBB.out (by omega) HBW.out) (by omega) _ _ _, A2, c2, rfl, HRD.out, HFR.out⟩

theorem greenForth_good (W H : Int) (ad : Addr) (n c : Nat) (ps : List Int) (w : World) (HR : ReadsInt w .u32 (some ad) n ps) (hps : ∀ x ∈ ps, 0 ≤ x ∧ x < 4294967296) (hn0 : 0 < n) (hn : n ≤ 100000) (hg : goodI W H n = true) : Calls Try.prog 32 #[.agg #[.int .i64 W, .int .i64 H, .slice (some ad) n c]] w fun e w' =>
    Below w.heap.size w w' ∧ ∃ A2 c2, e = .returned (.tuple #[.agg #[.int .i64 W, .int .i64 H, .slice A2 n c2], .int .i64 0]) ∧ ReadsInt w' .u32 A2 n (ps.map greenP) ∧ (∀ a, A2 = some a → w.heap.size ≤ a.block) := by
  have HG := Lib.hid hg; have HPS := Lib.hid hps
  have hnew := alloc_new (w.alloc (.cells #[.int .i64 W, .int .i64 H, .slice (some ad) n c] 24)) #[.int .i64 0, .int .i64 0, .slice none 0 0] 24
  rw [World.size_alloc] at hnew
  have HNEW := Lib.hid hnew
  have hb0 := ((Below.refl _ w).alloc (Nat.le_refl _) (.cells #[.int .i64 W, .int .i64 H, .slice (some ad) n c] 24)).alloc (by simp) (.cells #[.int .i64 0, .int .i64 0, .slice none 0 0] 24)
  have HR0 := Lib.hid (HR.below (show Below w.heap.size w _ from hb0))
  have HB0 := Lib.hid hb0
  clear hnew hb0 hg hps HR
  go_enter Try.func32, Try.ntmps32
  go_wp2_with fail
  generalize hw0 : (w.alloc (.cells #[.int .i64 W, .int .i64 H, .slice (some ad) n c] 24)).alloc (.cells #[.int .i64 0, .int .i64 0, .slice none 0 0] 24) = w0 at *
  have hs0 : w.heap.size + 2 ≤ w0.heap.size := by rw [← hw0]; simp
  clear hw0
  refine (green_good W H ad n c ps w0 HR0.out HPS.out hn0 hn HG.out).mono ?_
  rintro e w1 ⟨hB, A2, c2, rfl, hr, hfr⟩
  have hz1 := hB.size
  have HPX := Lib.hid ((Mods.of_below hB []).blk HNEW.out (by simp))
  have HBB := Lib.hid (below_then HB0.out (by omega) hB)
  obtain ⟨u0, u1, u2, g0, g1, g2⟩ := box3 HPX.out
  have hnb : ∀ a, A2 = some a → a.block ∉ [w.heap.size + 1] := fun a ha => by
    have := hfr a ha
    simp; omega
  have HFR := Lib.hid (show ∀ a, A2 = some a → w.heap.size ≤ a.block from fun a ha => by have := hfr a ha; omega)
  have HRD := Lib.hid (ReadsInt.mods hr (mods_box (w.heap.size + 1) w1 (.int .i64 W) (.int .i64 H) (.slice A2 n c2)) hnb)
  clear hB hr hnb hfr
  go_wp2_with fail
  refine bodyPost_ret (results_box rfl _ _ _ _ _ _ _ rfl (blk_set3 HPX.out _ _ _) Try.underlying24 rfl size_image) rfl ?_
  exact ⟨below_box HBB.out (by omega) _ _ _, A2, c2, rfl, HRD.out, HFR.out⟩
end Go.Proofs.Ytbnelomknjnplaa
