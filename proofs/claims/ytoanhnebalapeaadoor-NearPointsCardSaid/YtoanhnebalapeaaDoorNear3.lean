/- What near.Point tells. -/
import Derived.Test.YtoanhnebalapeaaDoorNear2
namespace Go.Proofs.YtoanhnebalapeaaDoor
open Go.RowKit Go.Shelf
open Go.Proofs.YtoanhnebalapeaaDoorW.PrintWords
open Nr
attribute [local go_sem] Oper.semAt_some

theorem pointS_at {k : Nat} {q : List Pt} {p : Pt} {code : Int} (h : ptsS.take k = q ++ [p]) (hc : code = (ptsS.take k).length) : pointS code = ((p.1.1, p.2.1), true) := by
  have hl := congrArg List.length h
  rw [List.length_append, List.length_singleton] at hl
  have hk : (ptsS.take k).length ≤ 120 := by rw [List.length_take, ptsS_length]; omega
  unfold pointS
  rw [if_pos (by omega)]
  have h1 : ptsS[q.length]? = some p := by
    have : (ptsS.take k)[q.length]? = some p := by rw [h]; simp
    rw [List.getElem?_take] at this
    split at this
    · exact this
    · cases this
  have h2 : points[q.length]? = some (p.1.1, p.2.1) := by rw [← ptsS_points, List.getElem?_map, h1]; rfl
  rw [show (code - 1).toNat = q.length from by omega, List.getD_eq_getElem?_getD, h2]; rfl

theorem all_fn (w : World) : Calls Tryd.prog 14 #[] w fun e w' => e = .returned (.func (.func 18) #[] #[]) ∧ w = w' := by
  go_enter Tryd.func14, Tryd.ntmps14
  go_wp2
  go_ret
  exact ⟨rfl, rfl⟩
/-- New boxes, one behind the other. -/
def boxes (w : World) : List (Value × TypeId) → World
  | [] => w
  | (v, t) :: r => boxes (w.alloc (.cells #[v] t)) r
theorem boxes_size : ∀ (l : List (Value × TypeId)) (w : World), (boxes w l).heap.size = w.heap.size + l.length
  | [], w => rfl
  | (v, t) :: r, w => by rw [boxes, boxes_size r, World.size_alloc, List.length_cons]; omega
theorem boxes_below : ∀ (l : List (Value × TypeId)) (w : World), Below w.heap.size w (boxes w l)
  | [], w => Below.refl _ _
  | (v, t) :: r, w => ((Below.refl _ w).alloc (Nat.le_refl _) _).trans ((boxes_below r (w.alloc (.cells #[v] t))).mono (by simp))
theorem boxes_at : ∀ (l : List (Value × TypeId)) (w : World) (i : Nat) (v : Value) (t : TypeId), l[i]? = some (v, t) → Boxed (boxes w l) (w.heap.size + i) t v
  | [], w, i, v, t, h => by simp at h
  | (v, t) :: r, w, 0, v', t', h => by
    simp at h
    obtain ⟨rfl, rfl⟩ := h
    exact ((boxes_below r (w.alloc (.cells #[v] t))).block _ (by simp)).trans (Boxed.new w t v)
  | (v, t) :: r, w, i + 1, v', t', h => by
    have := boxes_at r (w.alloc (.cells #[v] t)) i v' t' (by simpa using h)
    rw [World.size_alloc] at this
    rw [show w.heap.size + (i + 1) = w.heap.size + 1 + i from by omega]
    exact this

set_option maxRecDepth 100000 in
/-- How near.Point ends. -/
theorem point_ends {R : Ending → World → Prop} {W : World} {tmps : Array Value} {D b1 b2 b3 : Nat} {v1 v2 : Int} {v3 : Bool} (hd : W.heap[D]? = some (.deferred (some [])))
    (t2 : tmps[2]?.getD undef = .pointer (some ⟨b1, 0, none⟩)) (t3 : tmps[3]?.getD undef = .pointer (some ⟨b2, 0, none⟩)) (t4 : tmps[4]?.getD undef = .pointer (some ⟨b3, 0, none⟩))
    (h1 : Boxed W b1 3 (.int .i64 v1)) (h2 : Boxed W b2 3 (.int .i64 v2)) (h3 : Boxed W b3 4 (.bool v3)) (hR : R (.returned (.tuple #[.int .i64 v1, .int .i64 v2, .bool v3])) (W.putObj D (.deferred none))) :
    bodyPostM Fence.wide 9 Tryd.prog Tryd.f7 R .ret { tmps := tmps, defers := [{ target := .collected D, args := #[] }] } W := by
  have hne : ∀ b t v, Boxed W b t v → (W.putObj D (.deferred none)).cell? ⟨b, 0, none⟩ = some v := fun b t v h => by
    have hb : b ≠ D := fun e => by subst e; have := (show W.heap[b]? = _ from h).symm.trans hd; cases this
    exact (World.cell?_of_block (w := W) (World.putObj_heap_other hb)).trans h.cell
  have c1 := hne _ _ _ h1
  have c2 := hne _ _ _ h2
  have c3 := hne _ _ _ h3
  refine ⟨by simp, .inl ⟨_, _, rfl, run_takeDeferred hd, _, ?_, hR⟩⟩
  simp [results, Tryd.results7, go_sem, t2, t3, t4, c1, c2, c3]

set_option maxRecDepth 100000 in
set_option maxHeartbeats 4000000 in
theorem point_any (code : Int) (w : World) (hgl : 0 < w.heap.size) (hsp : Spaces w) :
    Calls Tryd.prog 7 #[.int .i64 code] w fun e w' => e = .returned (.tuple #[.int .i64 (pointS code).1.1, .int .i64 (pointS code).1.2, .bool (pointS code).2]) ∧ Below w.heap.size w w' := by
  refine (callsIn_wide (n := 9)).1 (callsIn_of_wp_marks Tryd.func7 rfl trivial ?_ rfl)
  refine wpIn_wide.2 ?_
  simp only [Tryd.ntmps7, List.size_toArray, List.length_cons, List.length_nil, Nat.reduceAdd, Nat.reduceSub, Array.replicate_succ, Array.replicate_zero, List.push_toArray, List.append_toArray, List.nil_append, List.cons_append]
  go_wp2_with fail
  refine (all_fn _).mono ?_
  rintro e w' ⟨rfl, rfl⟩
  have hb1 := boxes_below [(.int .i64 code, 3), (.int .i64 0, 3), (.int .i64 0, 3), (.bool false, 4), (.int .i64 0, 3)] w
  have hz1 := boxes_size [(.int .i64 code, 3), (.int .i64 0, 3), (.int .i64 0, 3), (.bool false, 4), (.int .i64 0, 3)] w
  have hbx := fun i v t h => boxes_at [(.int .i64 code, 3), (.int .i64 0, 3), (.int .i64 0, 3), (.bool false, 4), (.int .i64 0, 3)] w i v t h
  have b0 := hbx 0 _ _ rfl
  have b1 := hbx 1 _ _ rfl
  have b2 := hbx 2 _ _ rfl
  have b3 := hbx 3 _ _ rfl
  have b4 := hbx 4 _ _ rfl
  clear hbx
  simp only [boxes, List.length_cons, List.length_nil] at hb1 hz1 b0 b1 b2 b3 b4
  have hsp1 := hsp.of_block (hb1.block _ hgl)
  obtain ⟨B, hB⟩ : ∃ B, w.heap.size = B := ⟨_, rfl⟩
  rw [hB] at hb1 hz1 b0 b1 b2 b3 b4 hgl ⊢
  simp only [Nat.zero_add, Nat.reduceAdd, Nat.add_zero] at hz1 b0
  generalize ((((w.alloc (.cells #[.int .i64 code] 3)).alloc (.cells #[.int .i64 0] 3)).alloc (.cells #[.int .i64 0] 3)).alloc (.cells #[.bool false] 4)).alloc (.cells #[.int .i64 0] 3) = w1 at *
  go_wp2_with fail
  refine (wpIn_wide (n := 9)).1 ?_
  refine wpIn_rangeFunc_seq rfl (by decide) (gf := 18) (lb := #[]) rfl trivial (enters_of Tryd.func18 (by kernel_rfl) rfl)
    (all_stops (9 - 1) (by decide) w1 (by omega) hsp1) (Below.refl _ _) (by simp; omega) (fun _ => rfl)
    (fun pre W' => (Boxed W' B 3 (.int .i64 code) ∧ Boxed W' (B + 1) 3 (.int .i64 0) ∧ Boxed W' (B + 2) 3 (.int .i64 0) ∧ Boxed W' (B + 3) 4 (.bool false) ∧ Boxed W' (B + 4) 3 (.int .i64 pre.length)) ∧ ¬ (1 ≤ code ∧ code ≤ pre.length) ∧ Below B w W')
    (fun c pre W' => c = .ret ∧ ∃ q p, pre = q ++ [p] ∧ code = pre.length ∧ (Boxed W' (B + 1) 3 (.int .i64 p.1.1) ∧ Boxed W' (B + 2) 3 (.int .i64 p.2.1) ∧ Boxed W' (B + 3) 4 (.bool true)) ∧ Below B w W')
    ?locI ?locIx ⟨⟨b0, b1, b2, b3, b4⟩, by simp; omega, hb1⟩
    (fun x a' W => ∃ Bp, B + 5 + 2 ≤ Bp ∧ W.heap[Bp]? = some (.cells #[.int .i64 x.1.1, .int .i64 x.2.1] 36 (0, 0)) ∧ a' = { tmps := #[.int .i64 code, .pointer (some ⟨B, 0, none⟩), .pointer (some ⟨B + 1, 0, none⟩), .pointer (some ⟨B + 1 + 1, 0, none⟩), .pointer (some ⟨B + 1 + 1 + 1, 0, none⟩), .pointer (some ⟨B + 1 + 1 + 1 + 1, 0, none⟩), .pointer (some ⟨Bp, 0, none⟩), .func (.func 18) #[] #[], .agg #[.int .i64 x.1.1, .int .i64 x.2.1], undef, undef, undef, undef, undef, undef, undef, undef, undef], defers := [] })
    ?hAx ?assign ?body ?done ?stop
  case locI =>
    rintro pre A C ⟨⟨h1, h2, h3, h4, h5⟩, h6, h7⟩ hb
    exact ⟨⟨(hb.block _ (by omega)).trans h1, (hb.block _ (by omega)).trans h2, (hb.block _ (by omega)).trans h3, (hb.block _ (by omega)).trans h4, (hb.block _ (by omega)).trans h5⟩, h6, h7.trans (hb.mono (by omega))⟩
  case locIx =>
    rintro c pre A C ⟨h1, q, p, h2, h3, ⟨h4, h5, h6⟩, h7⟩ hb
    exact ⟨h1, q, p, h2, h3, ⟨(hb.block _ (by omega)).trans h4, (hb.block _ (by omega)).trans h5, (hb.block _ (by omega)).trans h6⟩, h7.trans (hb.mono (by omega))⟩
  case hAx =>
    rintro x a' W o ⟨Bp, h1, h2, h3⟩
    exact ⟨Bp, h1, (World.putObj_heap_other (by omega)).trans h2, h3⟩
  case assign =>
    rintro l2 pre x W' K hz hI hK
    unfold encPt
    dsimp only
    gi_wp2
    obtain ⟨⟨h1, h2, h3, h4, h5⟩, h6, h7⟩ := hI
    exact hK _ _ ((Leaves.refl _ _ _).alloc _) ⟨⟨h1.alloc _, h2.alloc _, h3.alloc _, h4.alloc _, h5.alloc _⟩, h6, h7.alloc (by omega) _⟩ ⟨W'.heap.size, by omega, World.alloc_heap_new _ _, rfl⟩
  case body =>
    rintro l2 pre x a' W' hz ⟨⟨h1, h2, h3, h4, h5⟩, h6, h7⟩ ⟨Bp, hBp, hx, rfl⟩ hlen
    have HI := Lib.hid (And.intro (And.intro h1 (And.intro h2 (And.intro h3 h4))) h7)
    have c1 := h1.cell
    have c5 := h5.cell
    have f5 := h5.frozen
    have c1' := (h1.other (show B ≠ B + 4 by omega) (.int .i64 ((pre.length : Int) + 1))).cell
    have c5' := (h5.set (.int .i64 ((pre.length : Int) + 1))).cell
    have HN5 := Lib.hid (h5.set (.int .i64 ((pre.length : Int) + 1)))
    have HX := Lib.hid hx
    clear h1 h2 h3 h4 h5 h7 hx
    by_cases hcd : code = (pre.length : Int) + 1
    · have hcb : ((pre.length : Int) + 1 == code) = true := by simp [hcd]
      have HCD := Lib.hid hcd
      clear hcd
      gi_wp2
      have bn1 := (HI.out.1.2.1.other (show B + 1 ≠ B + 4 by omega) (.int .i64 ((pre.length : Int) + 1)))
      have bn2 := (HI.out.1.2.2.1.other (show B + 2 ≠ B + 4 by omega) (.int .i64 ((pre.length : Int) + 1)))
      have bn3 := (HI.out.1.2.2.2.other (show B + 3 ≠ B + 4 by omega) (.int .i64 ((pre.length : Int) + 1)))
      have hx3 := (Below.heap_setCell W' ⟨B + 4, 0, none⟩ (.int .i64 ((pre.length : Int) + 1)) Bp (by simp; omega)).trans HX.out
      have hlv := (Leaves.refl w1.heap.size [0] W').setCell (p := ⟨B + 4, 0, none⟩) (.inr ⟨by dsimp only; omega, by first | (simp; done) | (simp; omega)⟩) (.int .i64 ((pre.length : Int) + 1))
      have hbw := HI.out.2.setCell (p := ⟨B + 4, 0, none⟩) (by dsimp only; omega) (.int .i64 ((pre.length : Int) + 1))
      rw [show B + 1 + 1 + 1 + 1 = B + 4 from by omega, show B + 1 + 1 + 1 = B + 3 from by omega, show B + 1 + 1 = B + 2 from by omega]
      clear c1' c5' HN5 HI c1 c5 f5
      generalize W'.setCell ⟨B + 4, 0, none⟩ (.int .i64 ((pre.length : Int) + 1)) = W3 at *
      have g1 := bn1.cell
      have g2 := bn2.cell
      have g3 := bn3.cell
      have e1 := bn1.frozen
      have e2 := bn2.frozen
      have e3 := bn3.frozen
      have x1 : W3.cell? ⟨Bp, 0, none⟩ = some (.int .i64 x.1.1) := by rw [cell_blk hx3]; rfl
      have x2 : W3.cell? ⟨Bp, 1, none⟩ = some (.int .i64 x.2.1) := by rw [cell_blk hx3]; rfl
      have HF := Lib.hid (show (Leaves w1.heap.size [0] W' (((W3.setCell ⟨B + 1, 0, none⟩ (.int .i64 x.1.1)).setCell ⟨B + 2, 0, none⟩ (.int .i64 x.2.1)).setCell ⟨B + 3, 0, none⟩ (.bool true)).drew) ∧
          (Boxed (((W3.setCell ⟨B + 1, 0, none⟩ (.int .i64 x.1.1)).setCell ⟨B + 2, 0, none⟩ (.int .i64 x.2.1)).setCell ⟨B + 3, 0, none⟩ (.bool true)).drew (B + 1) 3 (.int .i64 x.1.1) ∧
           Boxed (((W3.setCell ⟨B + 1, 0, none⟩ (.int .i64 x.1.1)).setCell ⟨B + 2, 0, none⟩ (.int .i64 x.2.1)).setCell ⟨B + 3, 0, none⟩ (.bool true)).drew (B + 2) 3 (.int .i64 x.2.1) ∧
           Boxed (((W3.setCell ⟨B + 1, 0, none⟩ (.int .i64 x.1.1)).setCell ⟨B + 2, 0, none⟩ (.int .i64 x.2.1)).setCell ⟨B + 3, 0, none⟩ (.bool true)).drew (B + 3) 4 (.bool true)) ∧
          Below B w (((W3.setCell ⟨B + 1, 0, none⟩ (.int .i64 x.1.1)).setCell ⟨B + 2, 0, none⟩ (.int .i64 x.2.1)).setCell ⟨B + 3, 0, none⟩ (.bool true)).drew from
        ⟨(((hlv.setCell (p := ⟨B + 1, 0, none⟩) (.inr ⟨by dsimp only; omega, by first | (simp; done) | (simp; omega)⟩) _).setCell (p := ⟨B + 2, 0, none⟩) (.inr ⟨by dsimp only; omega, by first | (simp; done) | (simp; omega)⟩) _).setCell (p := ⟨B + 3, 0, none⟩) (.inr ⟨by dsimp only; omega, by first | (simp; done) | (simp; omega)⟩) _).drew,
         ⟨((bn1.set _).other (by omega) _).other (by omega) _, ((bn2.other (by omega) _).set _).other (by omega) _, ((bn3.other (by omega) _).other (by omega) _).set _⟩,
         (((hbw.setCell (p := ⟨B + 1, 0, none⟩) (by dsimp only; omega) _).setCell (p := ⟨B + 2, 0, none⟩) (by dsimp only; omega) _).setCell (p := ⟨B + 3, 0, none⟩) (by dsimp only; omega) _).drew⟩)
      have n1 : Bp ≠ B + 1 := by omega
      have n2 : Bp ≠ B + 2 := by omega
      have n3 : Bp ≠ B + 3 := by omega
      clear bn1 bn2 bn3 hx3 hlv hbw HX
      gi_region
      all_goals
        gi_wp2
        exact ⟨HF.out.1, rfl, pre, x, rfl, by rw [List.length_append, List.length_singleton]; exact HCD.out, HF.out.2.1, HF.out.2.2⟩
    · have hcb : ((pre.length : Int) + 1 == code) = false := by simp; omega
      have HCD := Lib.hid hcd
      clear hcd
      gi_wp2
      rw [show B + 1 + 1 + 1 + 1 = B + 4 from by omega]
      have o := fun (q : Nat) (h : q < B + 4) (t : TypeId) (v : Value) (b : Boxed W' q t v) => b.other (show q ≠ B + 4 by omega) (.int .i64 ((pre.length : Int) + 1))
      refine ⟨(Leaves.refl w1.heap.size [0] W').setCell (p := ⟨B + 4, 0, none⟩) (.inr ⟨by dsimp only; omega, by first | (simp; done) | (simp; omega)⟩) _, ⟨o _ (by omega) _ _ HI.out.1.1, o _ (by omega) _ _ HI.out.1.2.1, o _ (by omega) _ _ HI.out.1.2.2.1, o _ (by omega) _ _ HI.out.1.2.2.2, ?_⟩, ?_, HI.out.2.setCell (p := ⟨B + 4, 0, none⟩) (by dsimp only; omega) _⟩
      · rw [List.length_append, List.length_singleton, Int.natCast_add]; exact HN5.out
      · rw [List.length_append, List.length_singleton]; have := HCD.out; omega
  case done =>
    rintro ys W' rfl ⟨⟨h1, h2, h3, h4, h5⟩, h6, h7⟩ hd hz
    have hps : pointS code = ((0, 0), false) := by
      unfold pointS
      rw [ptsS_length] at h6
      exact if_neg h6
    have HP := Lib.hid hps
    have c2 := h2.cell
    have c3 := h3.cell
    have c4 := h4.cell
    have e2 := h2.frozen
    have e3 := h3.frozen
    have e4 := h4.frozen
    have HB := Lib.hid h7
    have HX := Lib.hid (And.intro h2 (And.intro h3 h4))
    clear h1 h2 h3 h4 h5 h6 h7 hps
    go_wp2
    have hp : ∀ (X : World), Below B X (X.putObj w1.heap.size (.deferred none)) := fun X => ⟨rfl, rfl, rfl, by simp, fun k hk => World.putObj_heap_other (by omega)⟩
    refine point_ends (D := w1.heap.size) (v1 := 0) (v2 := 0) (v3 := false) ?_ rfl rfl rfl (((HX.out.1.set _).other (by omega) _).other (by omega) _) (((HX.out.2.1.other (by omega) _).set _).other (by omega) _) (((HX.out.2.2.other (by omega) _).other (by omega) _).set _)
      ⟨by rw [HP.out], by rw [hB]; exact (((HB.out.setCell (p := ⟨B + 1, 0, none⟩) (by dsimp only; omega) _).setCell (p := ⟨B + 2, 0, none⟩) (by dsimp only; omega) _).setCell (p := ⟨B + 3, 0, none⟩) (by dsimp only; omega) _).trans (hp _)⟩
    exact (Below.heap_setCell _ _ _ _ (by dsimp only; omega)).trans ((Below.heap_setCell _ _ _ _ (by dsimp only; omega)).trans ((Below.heap_setCell _ _ _ _ (by dsimp only; omega)).trans hd))
  case stop =>
    rintro c pre W' ⟨k, rfl⟩ ⟨rfl, q, p, hq, hc, ⟨h1, h2, h3⟩, h4⟩ hd hz
    have HP := Lib.hid (pointS_at hq hc)
    have HX := Lib.hid (And.intro h1 (And.intro h2 h3))
    have HB := Lib.hid h4
    clear h1 h2 h3 h4 hc hq
    refine wpIn_wide.2 ?_
    go_wp2
    have hp : ∀ (X : World), Below B X (X.putObj w1.heap.size (.deferred none)) := fun X => ⟨rfl, rfl, rfl, by simp, fun k hk => World.putObj_heap_other (by omega)⟩
    exact point_ends (D := w1.heap.size) hd rfl rfl rfl HX.out.1 HX.out.2.1 HX.out.2.2 ⟨by rw [HP.out], by rw [hB]; exact HB.out.trans (hp _)⟩
end Go.Proofs.YtoanhnebalapeaaDoor
