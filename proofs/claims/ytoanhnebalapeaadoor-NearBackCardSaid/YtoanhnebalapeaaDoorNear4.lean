/- What near.Dist and near.Code tell. -/
import Derived.Test.YtoanhnebalapeaaDoorNear3
namespace Go.Proofs.YtoanhnebalapeaaDoor
open Go.RowKit Go.Shelf
open Go.Proofs.YtoanhnebalapeaaDoorW.PrintWords
open Nr
attribute [local go_sem] Oper.semAt_some

theorem farS_max (dx dy w : Int) : farS (dx, dy) w = max (dx + dy * w) 1 := by
  unfold farS
  dsimp only
  split <;> omega

set_option maxHeartbeats 1000000 in
theorem far_any (dx dy width : Int) (w : World) (hx : -8 ≤ dx ∧ dx ≤ 8) (hy : -8 ≤ dy ∧ dy ≤ 8) (hw : 1 ≤ width ∧ width ≤ 16384) :
    Calls Tryd.prog 17 #[.agg #[.int .i64 dx, .int .i64 dy], .int .i64 width] w fun e w' => e = .returned (.int .i64 (farS (dx, dy) width)) ∧ w' = w.alloc (.cells #[.int .i64 dx, .int .i64 dy] 36) := by
  have hm1 : dy * width ≤ 8 * width := Int.mul_le_mul_of_nonneg_right hy.2 (by omega)
  have hm2 : -8 * width ≤ dy * width := Int.mul_le_mul_of_nonneg_right hy.1 (by omega)
  have HF := Lib.hid (farS_max dx dy width)
  go_enter Tryd.func17, Tryd.ntmps17
  go_wp2
  go_ret
  exact ⟨by rw [HF.out]; rfl, rfl⟩

def okW (w : Int) : Bool := decide (1 ≤ w ∧ w ≤ 16384)
theorem wide_any (width : Int) (w : World) : Calls Tryd.prog 16 #[.int .i64 width] w fun e w' => e = .returned (.bool (okW width)) ∧ w = w' := by
  have HK := Lib.hid (show okW width = (decide (1 ≤ width) && decide (width ≤ 16384)) from by simp [okW])
  by_cases h1 : 1 ≤ width
  · go_enter Tryd.func16, Tryd.ntmps16
    go_wp2
    go_ret
    exact ⟨by rw [HK.out]; simp [h1], rfl⟩
  · have h2 : decide (1 ≤ width) = false := by simpa using h1
    have H2 := Lib.hid h2
    go_enter Tryd.func16, Tryd.ntmps16
    go_wp2
    go_ret
    exact ⟨by rw [HK.out, H2.out]; rfl, rfl⟩

theorem point_bounds (code : Int) : (-8 ≤ (pointS code).1.1 ∧ (pointS code).1.1 ≤ 8) ∧ (-8 ≤ (pointS code).1.2 ∧ (pointS code).1.2 ≤ 8) := by
  by_cases h : 1 ≤ code ∧ code ≤ 120
  · obtain ⟨j, rfl⟩ : ∃ j : Nat, code = (j : Int) + 1 := ⟨(code - 1).toNat, by omega⟩
    obtain ⟨p, _, e, r⟩ := point_in (show j < 120 by omega)
    rw [e]; dsimp only; omega
  · unfold pointS; rw [if_neg h]; dsimp only; omega

set_option maxHeartbeats 1000000 in
theorem dist_any (code width : Int) (w : World) (hgl : 0 < w.heap.size) (hsp : Spaces w) :
    Calls Tryd.prog 10 #[.int .i64 code, .int .i64 width] w fun e w' => e = .returned (.int .i64 (distS code width)) ∧ Below w.heap.size w w' := by
  have HSP := Lib.hid hsp
  clear hsp
  by_cases hok : okW width = true
  · have hw : 1 ≤ width ∧ width ≤ 16384 := by simpa [okW] using hok
    have HOK := Lib.hid hok
    clear hok
    by_cases hc : 1 ≤ code ∧ code ≤ 1048576
    · obtain ⟨h1, h2⟩ := hc
      have hk1 : decide (code < 1) = false := by simp; omega
      have hk2 : decide (1048576 < code) = false := by simp; omega
      have HB := Lib.hid (point_bounds code)
      obtain ⟨⟨⟨dx, dy⟩, ok⟩, hp⟩ : ∃ r, pointS code = r := ⟨_, rfl⟩
      have HP := Lib.hid hp
      clear hp
      by_cases hle : code ≤ 120
      · have HD := Lib.hid (show distS code width = farS (dx, dy) width from by unfold distS; rw [if_pos ⟨hw.1, hw.2, h1, h2⟩, if_pos hle, HP.out])
        obtain rfl : ok = true := by have := HP.out; unfold pointS at this; rw [if_pos ⟨h1, hle⟩] at this; exact (Prod.mk.inj this).2.symm
        have hbd := HB.out
        rw [HP.out] at hbd
        go_enter Tryd.func10, Tryd.ntmps10
        go_wp2_with fail
        refine (wide_any width w).mono ?_
        rintro e w' ⟨rfl, rfl⟩
        rw [HOK.out]
        go_wp2_with fail
        refine (point_any code w hgl HSP.out).mono ?_
        rintro e w1 ⟨rfl, hb⟩
        rw [HP.out]
        have HB1 := Lib.hid hb
        clear hb
        go_wp2_with fail
        refine (far_any dx dy width w1 hbd.1 hbd.2 hw).mono ?_
        rintro e w2 ⟨rfl, rfl⟩
        go_wp2_with fail
        go_ret
        exact ⟨by rw [HD.out]; rfl, HB1.out.alloc HB1.out.size _⟩
      · have HD := Lib.hid (show distS code width = code - 120 from by unfold distS; rw [if_pos ⟨hw.1, hw.2, h1, h2⟩, if_neg hle])
        obtain rfl : ok = false := by have := HP.out; unfold pointS at this; rw [if_neg (by omega)] at this; exact (Prod.mk.inj this).2.symm
        go_enter Tryd.func10, Tryd.ntmps10
        go_wp2_with fail
        refine (wide_any width w).mono ?_
        rintro e w' ⟨rfl, rfl⟩
        rw [HOK.out]
        go_wp2_with fail
        refine (point_any code w hgl HSP.out).mono ?_
        rintro e w1 ⟨rfl, hb⟩
        rw [HP.out]
        have HB1 := Lib.hid hb
        clear hb
        go_wp2_with fail
        go_ret
        exact ⟨by rw [HD.out]; rfl, HB1.out⟩
    · have HD := Lib.hid (show distS code width = 0 from by unfold distS; rw [if_neg (fun h => hc ⟨h.2.2.1, h.2.2.2⟩)])
      by_cases h1 : code < 1
      all_goals
        go_enter Tryd.func10, Tryd.ntmps10
        go_wp2_with fail
        refine (wide_any width w).mono ?_
        rintro e w' ⟨rfl, rfl⟩
        rw [HOK.out]
        go_wp2_with fail
        go_ret
        exact ⟨by rw [HD.out]; rfl, Below.refl _ _⟩
  · have hok2 : okW width = false := by simpa using hok
    have HOK := Lib.hid hok2
    have HD := Lib.hid (show distS code width = 0 from by unfold distS; rw [if_neg (fun h => hok (by simp [okW]; omega))])
    clear hok hok2
    go_enter Tryd.func10, Tryd.ntmps10
    go_wp2_with fail
    refine (wide_any width w).mono ?_
    rintro e w' ⟨rfl, rfl⟩
    rw [HOK.out]
    go_wp2_with fail
    go_ret
    exact ⟨by rw [HD.out]; rfl, Below.refl _ _⟩

theorem codeS_at {k : Nat} {q : List Pt} {p : Pt} {dist width : Int} (hw : 1 ≤ width ∧ width ≤ 16384) (hd : 1 ≤ dist ∧ dist ≤ 1048456) (h : ptsS.take k = q ++ [p]) (hno : ∀ x ∈ q, farS (x.1.1, x.2.1) width ≠ dist) (hf : farS (p.1.1, p.2.1) width = dist) :
    codeS dist width = ((ptsS.take k).length : Int) := by
  have hl := congrArg List.length h
  rw [List.length_append, List.length_singleton] at hl
  have hget : ∀ (i : Nat) (x : Pt), (ptsS.take k)[i]? = some x → points[i]? = some (x.1.1, x.2.1) := fun i x hx => by
    rw [List.getElem?_take] at hx
    split at hx
    · rw [← ptsS_points, List.getElem?_map, hx]; rfl
    · cases hx
  unfold codeS
  rw [if_pos ⟨hw.1, hw.2, hd.1, hd.2⟩, hl, first_near (hget q.length p (by rw [h]; simp)) hf]
  · rfl
  · intro j x hj hx
    have : (ptsS.take k)[j]? = some q[j] := by rw [h, List.getElem?_append_left hj]; exact List.getElem?_eq_getElem hj
    have h2 := hget _ _ this
    rw [hx] at h2
    rw [Option.some.inj h2]
    exact hno _ (List.getElem_mem hj)
theorem codeS_none {dist width : Int} (hw : 1 ≤ width ∧ width ≤ 16384) (hd : 1 ≤ dist ∧ dist ≤ 1048456) (hno : ∀ x ∈ ptsS, farS (x.1.1, x.2.1) width ≠ dist) : codeS dist width = dist + 120 := by
  unfold codeS
  rw [if_pos ⟨hw.1, hw.2, hd.1, hd.2⟩, first_none]
  intro x hx
  rw [← ptsS_points] at hx
  obtain ⟨y, hy, rfl⟩ := List.mem_map.1 hx
  exact hno y hy

set_option maxRecDepth 100000 in
/-- How near.Code ends. -/
theorem code_ends {R : Ending → World → Prop} {W : World} {tmps : Array Value} {D b : Nat} {v : Int} (hd : W.heap[D]? = some (.deferred (some [])))
    (t4 : tmps[4]?.getD undef = .pointer (some ⟨b, 0, none⟩)) (h1 : Boxed W b 3 (.int .i64 v)) (hR : R (.returned (.int .i64 v)) (W.putObj D (.deferred none))) :
    bodyPostM Fence.wide 9 Tryd.prog Tryd.f12 R .ret { tmps := tmps, defers := [{ target := .collected D, args := #[] }] } W := by
  have hb : b ≠ D := fun e => by subst e; have := (show W.heap[b]? = _ from h1).symm.trans hd; cases this
  have c1 : (W.putObj D (.deferred none)).cell? ⟨b, 0, none⟩ = some (.int .i64 v) := (World.cell?_of_block (w := W) (World.putObj_heap_other hb)).trans h1.cell
  refine ⟨by simp, .inl ⟨_, _, rfl, run_takeDeferred hd, _, ?_, hR⟩⟩
  simp [results, Tryd.results12, go_sem, t4, c1]

set_option maxRecDepth 100000 in
set_option maxHeartbeats 4000000 in
theorem code_any (dist width : Int) (w : World) (hgl : 0 < w.heap.size) (hsp : Spaces w) :
    Calls Tryd.prog 12 #[.int .i64 dist, .int .i64 width] w fun e w' => e = .returned (.int .i64 (codeS dist width)) ∧ Below w.heap.size w w' := by
  have HSP := Lib.hid hsp
  have hb0 := boxes_below [(.int .i64 dist, 3), (.int .i64 width, 3), (.int .i64 0, 3)] w
  have k2 : (((w.alloc (.cells #[.int .i64 dist] 3)).alloc (.cells #[.int .i64 width] 3)).alloc (.cells #[.int .i64 0] 3)).cell? ⟨w.heap.size + 1 + 1, 0, none⟩ = some (.int .i64 0) :=
    (boxes_at [(.int .i64 dist, 3), (.int .i64 width, 3), (.int .i64 0, 3)] w 2 _ _ rfl).cell
  have hb1 := boxes_below [(.int .i64 dist, 3), (.int .i64 width, 3), (.int .i64 0, 3), (.int .i64 0, 3)] w
  have hz1 := boxes_size [(.int .i64 dist, 3), (.int .i64 width, 3), (.int .i64 0, 3), (.int .i64 0, 3)] w
  have hbx := fun i v t h => boxes_at [(.int .i64 dist, 3), (.int .i64 width, 3), (.int .i64 0, 3), (.int .i64 0, 3)] w i v t h
  have b0 := hbx 0 _ _ rfl
  have b1 := hbx 1 _ _ rfl
  have b2 := hbx 2 _ _ rfl
  have b3 := hbx 3 _ _ rfl
  clear hbx hsp
  simp only [boxes, List.length_cons, List.length_nil, Nat.zero_add, Nat.reduceAdd, Nat.add_zero] at hb0 hb1 hz1 b0 b1 b2 b3
  by_cases hok : okW width = true
  · have hw : 1 ≤ width ∧ width ≤ 16384 := by simpa [okW] using hok
    have HOK := Lib.hid hok
    clear hok
    by_cases hc : 1 ≤ dist ∧ dist ≤ 1048456
    · obtain ⟨hd1, hd2⟩ := hc
      have hk1 : decide (dist < 1) = false := by simp; omega
      have hk2 : decide (1048456 < dist) = false := by simp; omega
      refine (callsIn_wide (n := 9)).1 (callsIn_of_wp_marks Tryd.func12 rfl trivial ?_ rfl)
      refine wpIn_wide.2 ?_
      simp only [Tryd.ntmps12, List.size_toArray, List.length_cons, List.length_nil, Nat.reduceAdd, Nat.reduceSub, Array.replicate_succ, Array.replicate_zero, List.push_toArray, List.append_toArray, List.nil_append, List.cons_append]
      go_wp2_with fail
      refine (wide_any width _).mono ?_
      rintro e w' ⟨rfl, rfl⟩
      rw [HOK.out]
      go_wp2_with fail
      refine (all_fn _).mono ?_
      rintro e w' ⟨rfl, rfl⟩
      have hsp1 := HSP.out.of_block (hb1.block _ hgl)
      obtain ⟨B, hB⟩ : ∃ B, w.heap.size = B := ⟨_, rfl⟩
      rw [hB] at hb1 hz1 b0 b1 b2 b3 hgl ⊢
      generalize (((w.alloc (.cells #[.int .i64 dist] 3)).alloc (.cells #[.int .i64 width] 3)).alloc (.cells #[.int .i64 0] 3)).alloc (.cells #[.int .i64 0] 3) = w1 at *
      go_wp2_with fail
      refine (wpIn_wide (n := 9)).1 ?_
      refine wpIn_rangeFunc_seq rfl (by decide) (gf := 18) (lb := #[]) rfl trivial (enters_of Tryd.func18 (by kernel_rfl) rfl)
        (all_stops (9 - 1) (by decide) w1 (by omega) hsp1) (Below.refl _ _) (by simp; omega) (fun _ => rfl)
        (fun pre W' => (Boxed W' B 3 (.int .i64 dist) ∧ Boxed W' (B + 1) 3 (.int .i64 width) ∧ Boxed W' (B + 2) 3 (.int .i64 0) ∧ Boxed W' (B + 3) 3 (.int .i64 pre.length)) ∧ (∀ x ∈ pre, farS (x.1.1, x.2.1) width ≠ dist) ∧ Below B w W')
        (fun c pre W' => c = .ret ∧ ∃ q p, pre = q ++ [p] ∧ (∀ x ∈ q, farS (x.1.1, x.2.1) width ≠ dist) ∧ farS (p.1.1, p.2.1) width = dist ∧ Boxed W' (B + 2) 3 (.int .i64 pre.length) ∧ Below B w W')
        ?locI ?locIx ⟨⟨b0, b1, b2, b3⟩, by simp, hb1⟩
        (fun x a' W => ∃ Bp, B + 4 + 2 ≤ Bp ∧ W.heap[Bp]? = some (.cells #[.int .i64 x.1.1, .int .i64 x.2.1] 36 (0, 0)) ∧ ∃ u7 u8 u9 u10 u11 u12 u13 u14 u15 u16 u17, a' = { tmps := #[.int .i64 dist, .int .i64 width, .pointer (some ⟨B, 0, none⟩), .pointer (some ⟨B + 1, 0, none⟩), .pointer (some ⟨B + 1 + 1, 0, none⟩), .pointer (some ⟨B + 1 + 1 + 1, 0, none⟩), .pointer (some ⟨Bp, 0, none⟩), u7, u8, u9, u10, u11, u12, u13, u14, u15, u16, u17, .func (.func 18) #[] #[], .agg #[.int .i64 x.1.1, .int .i64 x.2.1], undef, undef, undef, undef, undef, undef, undef, undef, undef, undef], defers := [] })
        ?hAx ?assign ?body ?done ?stop
      case locI =>
        rintro pre A C ⟨⟨h1, h2, h3, h4⟩, h6, h7⟩ hb
        exact ⟨⟨(hb.block _ (by omega)).trans h1, (hb.block _ (by omega)).trans h2, (hb.block _ (by omega)).trans h3, (hb.block _ (by omega)).trans h4⟩, h6, h7.trans (hb.mono (by omega))⟩
      case locIx =>
        rintro c pre A C ⟨h1, q, p, h2, h3, h4, h5, h7⟩ hb
        exact ⟨h1, q, p, h2, h3, h4, (hb.block _ (by omega)).trans h5, h7.trans (hb.mono (by omega))⟩
      case hAx =>
        rintro x a' W o ⟨Bp, h1, h2, h3⟩
        exact ⟨Bp, h1, (World.putObj_heap_other (by omega)).trans h2, h3⟩
      case assign =>
        rintro l2 pre x W' K hz hI hK
        unfold encPt
        dsimp only
        gi_wp2
        obtain ⟨⟨h1, h2, h3, h4⟩, h6, h7⟩ := hI
        exact hK _ _ ((Leaves.refl _ _ _).alloc _) ⟨⟨h1.alloc _, h2.alloc _, h3.alloc _, h4.alloc _⟩, h6, h7.alloc (by omega) _⟩ ⟨W'.heap.size, by omega, World.alloc_heap_new _ _, _, _, _, _, _, _, _, _, _, _, _, rfl⟩
      case body =>
        rintro l2 pre x a' W' hz ⟨⟨h1, h2, h3, h4⟩, h6, h7⟩ ⟨Bp, hBp, hx, u7, u8, u9, u10, u11, u12, u13, u14, u15, u16, u17, rfl⟩ hlen
        have c4 := h4.cell
        have f4 := h4.frozen
        have bn0 := h1.other (show B ≠ B + 3 by omega) (.int .i64 ((pre.length : Int) + 1))
        have bn1 := h2.other (show B + 1 ≠ B + 3 by omega) (.int .i64 ((pre.length : Int) + 1))
        have bn2 := h3.other (show B + 2 ≠ B + 3 by omega) (.int .i64 ((pre.length : Int) + 1))
        have bn3 := h4.set (.int .i64 ((pre.length : Int) + 1))
        have hx3 := (Below.heap_setCell W' ⟨B + 3, 0, none⟩ (.int .i64 ((pre.length : Int) + 1)) Bp (by dsimp only; omega)).trans hx
        have hlv := (Leaves.refl w1.heap.size [0] W').setCell (p := ⟨B + 3, 0, none⟩) (.inr ⟨by dsimp only; omega, by first | (simp; done) | (simp; omega)⟩) (.int .i64 ((pre.length : Int) + 1))
        have hbw := h7.setCell (p := ⟨B + 3, 0, none⟩) (by dsimp only; omega) (.int .i64 ((pre.length : Int) + 1))
        have H6 := Lib.hid h6
        rw [show B + 1 + 1 + 1 = B + 3 from by omega, show B + 1 + 1 = B + 2 from by omega]
        clear h1 h2 h3 h4 hx h6 h7
        gi_wp2
        have HB3 := Lib.hid (And.intro bn0 (And.intro bn1 (And.intro bn2 (And.intro bn3 (And.intro hlv hbw)))))
        generalize W'.setCell ⟨B + 3, 0, none⟩ (.int .i64 ((pre.length : Int) + 1)) = W3 at *
        have g0 := bn0.cell
        have g1 := bn1.cell
        have x1 : W3.cell? ⟨Bp, 0, none⟩ = some (.int .i64 x.1.1) := by rw [cell_blk hx3]; rfl
        have x2 : W3.cell? ⟨Bp, 1, none⟩ = some (.int .i64 x.2.1) := by rw [cell_blk hx3]; rfl
        have hxb := x.1.2
        have hyb := x.2.2
        have k0 : ∀ o, (W3.alloc o).cell? ⟨B, 0, none⟩ = some (.int .i64 dist) := fun o => (bn0.alloc o).cell
        have HNX := Lib.hid (show ∀ P : Pt → Prop, (∀ y ∈ pre, P y) → P x → ∀ y ∈ pre ++ [x], P y from fun P h1 h2 y hy => by
          rcases List.mem_append.1 hy with h | h
          · exact h1 y h
          · rw [List.mem_singleton.1 h]; exact h2)
        clear bn0 bn1 bn2 bn3 hx3 hlv hbw c4 f4
        have HB4 := Lib.hid (show Boxed ((W3.alloc (.cells #[.int .i64 x.1.1, .int .i64 x.2.1] 36)).drew) B 3 (.int .i64 dist) ∧ Boxed ((W3.alloc (.cells #[.int .i64 x.1.1, .int .i64 x.2.1] 36)).drew) (B + 1) 3 (.int .i64 width) ∧
            Boxed ((W3.alloc (.cells #[.int .i64 x.1.1, .int .i64 x.2.1] 36)).drew) (B + 2) 3 (.int .i64 0) ∧ Boxed ((W3.alloc (.cells #[.int .i64 x.1.1, .int .i64 x.2.1] 36)).drew) (B + 3) 3 (.int .i64 ((pre.length : Int) + 1)) ∧
            Leaves w1.heap.size [0] W' ((W3.alloc (.cells #[.int .i64 x.1.1, .int .i64 x.2.1] 36)).drew) ∧ Below B w ((W3.alloc (.cells #[.int .i64 x.1.1, .int .i64 x.2.1] 36)).drew) from
          ⟨HB3.out.1.alloc _, HB3.out.2.1.alloc _, HB3.out.2.2.1.alloc _, HB3.out.2.2.2.1.alloc _, (HB3.out.2.2.2.2.1.alloc _).drew, (HB3.out.2.2.2.2.2.alloc (by have := HB3.out.1.lt; omega) _).drew⟩)
        clear HB3
        by_cases hfd : farS (x.1.1, x.2.1) width = dist
        · have hcb : (farS (x.1.1, x.2.1) width == dist) = true := by simp [hfd]
          have HFD := Lib.hid hfd
          clear hfd
          gi_region_with (refine ⟨trivial, ?_⟩; gi_at_call 17; refine (CallsIn.inRound l2 (callsIn_wide.2 (far_any _ _ width _ hxb hyb hw))).mono ?_; rintro e w2 ⟨rfl, rfl⟩)
          all_goals
            clear k0 g0 g1 x1 x2
            generalize (W3.alloc (.cells #[.int .i64 x.1.1, .int .i64 x.2.1] 36)).drew = W4 at *
            have c3 := HB4.out.2.2.2.1.cell
            have c2 := HB4.out.2.2.1.cell
            have f2 := HB4.out.2.2.1.frozen
            gi_wp2
            exact ⟨HB4.out.2.2.2.2.1.setCell (p := ⟨B + 2, 0, none⟩) (.inr ⟨by dsimp only; omega, by first | (simp; done) | (simp; omega)⟩) _, rfl, pre, x, rfl, H6.out, HFD.out, by rw [List.length_append, List.length_singleton]; exact HB4.out.2.2.1.set _, HB4.out.2.2.2.2.2.setCell (p := ⟨B + 2, 0, none⟩) (by dsimp only; omega) _⟩
        · have hcb : (farS (x.1.1, x.2.1) width == dist) = false := by simp [hfd]
          have HFD := Lib.hid hfd
          clear hfd
          gi_region_with (refine ⟨trivial, ?_⟩; gi_at_call 17; refine (CallsIn.inRound l2 (callsIn_wide.2 (far_any _ _ width _ hxb hyb hw))).mono ?_; rintro e w2 ⟨rfl, rfl⟩)
          all_goals
            clear k0 g0 g1 x1 x2
            generalize (W3.alloc (.cells #[.int .i64 x.1.1, .int .i64 x.2.1] 36)).drew = W4 at *
            gi_wp2
            exact ⟨HB4.out.2.2.2.2.1, ⟨HB4.out.1, HB4.out.2.1, HB4.out.2.2.1, by rw [List.length_append, List.length_singleton]; exact HB4.out.2.2.2.1⟩, HNX.out _ H6.out HFD.out, HB4.out.2.2.2.2.2⟩
      case done =>
        rintro ys W' rfl ⟨⟨h1, h2, h3, h4⟩, h6, h7⟩ hd hz
        have HC := Lib.hid (codeS_none hw ⟨hd1, hd2⟩ h6)
        have c0 := h1.cell
        have c2 := h3.cell
        have f2 := h3.frozen
        have HX := Lib.hid (And.intro h3 h7)
        clear h1 h2 h3 h4 h6 h7
        go_wp2
        have hp : ∀ (X : World), Below B X (X.putObj w1.heap.size (.deferred none)) := fun X => ⟨rfl, rfl, rfl, by simp, fun k hk => World.putObj_heap_other (by omega)⟩
        refine code_ends (D := w1.heap.size) ?_ rfl (HX.out.1.set _) ⟨by rw [HC.out], by rw [hB]; exact (HX.out.2.setCell (p := ⟨B + 2, 0, none⟩) (by dsimp only; omega) _).trans (hp _)⟩
        exact (Below.heap_setCell _ _ _ _ (by dsimp only; omega)).trans hd
      case stop =>
        rintro c pre W' ⟨k, rfl⟩ ⟨rfl, q, p, hq, hno, hf, h1, h2⟩ hd hz
        have HC := Lib.hid (codeS_at hw ⟨hd1, hd2⟩ hq hno hf)
        have HX := Lib.hid (And.intro h1 h2)
        clear h1 h2 hq hno hf
        refine wpIn_wide.2 ?_
        go_wp2
        have hp : ∀ (X : World), Below B X (X.putObj w1.heap.size (.deferred none)) := fun X => ⟨rfl, rfl, rfl, by simp, fun k hk => World.putObj_heap_other (by omega)⟩
        exact code_ends (D := w1.heap.size) hd rfl HX.out.1 ⟨by rw [HC.out], by rw [hB]; exact HX.out.2.trans (hp _)⟩
    · have HC := Lib.hid (show codeS dist width = 0 from by unfold codeS; rw [if_neg (fun h => hc ⟨h.2.2.1, h.2.2.2⟩)])
      by_cases h1 : dist < 1
      all_goals
        go_enter Tryd.func12, Tryd.ntmps12
        go_wp2_with fail
        refine (wide_any width _).mono ?_
        rintro e w' ⟨rfl, rfl⟩
        rw [HOK.out]
        go_wp2_with fail
        exact bodyPost_ret (v := .int .i64 0) (by simp [results, Tryd.results12, go_sem, k2]) rfl ⟨by rw [HC.out], hb0⟩
  · have hok2 : okW width = false := by simpa using hok
    have HOK := Lib.hid hok2
    have HD := Lib.hid (show codeS dist width = 0 from by unfold codeS; rw [if_neg (fun h => hok (by simp [okW]; omega))])
    clear hok hok2
    go_enter Tryd.func12, Tryd.ntmps12
    go_wp2_with fail
    refine (wide_any width _).mono ?_
    rintro e w' ⟨rfl, rfl⟩
    rw [HOK.out]
    go_wp2_with fail
    exact bodyPost_ret (v := .int .i64 0) (by simp [results, Tryd.results12, go_sem, k2]) rfl ⟨by rw [HD.out], hb0⟩
end Go.Proofs.YtoanhnebalapeaaDoor
