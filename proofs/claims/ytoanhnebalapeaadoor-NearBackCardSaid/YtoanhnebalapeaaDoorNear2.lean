/- What near.all hands out: the points, in order. -/
import Derived.Test.YtoanhnebalapeaaDoorNear1
import Derived.Test.YtoanhnebalapeaaDoorShelf
namespace Go.Proofs.YtoanhnebalapeaaDoor
open Go.RowKit Go.Shelf
open Go.Proofs.YtoanhnebalapeaaDoorW.PrintWords
open Nr
attribute [local go_sem] Oper.semAt_some

theorem RoundIn.any {m m' : Nat} {P : Program} {l : Nat} {f : FuncId} {tmps : Array Value} {assign body : Code} {w : World} {R : Ending → World → Prop}
    (h : RoundIn Fence.wide m P l f tmps assign body w R) : RoundIn Fence.wide m' P l f tmps assign body w R := ⟨h.1, fun c cs _ => h.2 c cs (room_wide _)⟩
theorem RoundIn.inside {m : Nat} {P : Program} {l l' : Nat} {f : FuncId} {tmps : Array Value} {assign body : Code} {w : World} {R : Ending → World → Prop}
    (h : RoundIn Fence.wide m P l f tmps assign body w R) : RoundIn (Fence.wide.inRound l') m P l f tmps assign body w R := h

theorem fields_pts (s : ByteArray) (h : s.data.toList = pts) (w : World) :
    Calls Tryd.prog 19 #[.string s] w fun e w' => e = .returned (.func (.func 21) #[] #[.pointer (some ⟨w.heap.size, 0, none⟩)]) ∧ ∃ s' : ByteArray, s'.data.toList = pts ∧ w' = w.alloc (.cells #[.string s'] 9) :=
  (fields_any s w).mono fun _ _ ⟨he, hw⟩ => ⟨he, s, h, hw⟩
theorem pts_low : ∀ (j : Nat) (b : UInt8), pts[j]? = some b → b.toNat < 128 := fun j b h => by
  have := List.all_eq_true.1 pts_ascii b (List.mem_of_getElem? h)
  simpa using this
theorem pts_size {s : ByteArray} (h : s.data.toList = pts) : s.size = 528 := by
  have := congrArg List.length h
  rw [pts_length] at this
  rw [← this, Array.length_toList]; rfl

def encPt (p : Pt) : Array Value := #[.agg #[.int .i64 p.1.1, .int .i64 p.2.1]]

set_option maxRecDepth 100000 in
set_option maxHeartbeats 4000000 in
theorem all1_in (n : Nat) (hn : 3 ≤ n) (l B : Nat) (J Jx : List Pt → World → Prop) (hJ : Local B J) (hJx : Local B Jx)
    (hY : ∀ pre x W1, J pre W1 → B ≤ W1.heap.size → pre.length < 120 → YieldAt Fence.wide (n - 1) Tryd.prog l (encPt x) W1 fun e W' =>
      ((e = .returned (.bool true) ∧ J (pre ++ [x]) W') ∨ (e = .returned (.bool false) ∧ Jx (pre ++ [x]) W')) ∧ Leaves B [0] W1 W')
    (W : World) (hB : W.heap.size = B) (hgl : 0 < B) (hsp : Spaces W) (h0 : J [] W) :
    CallsIn Fence.wide n Tryd.prog 18 #[.func (.yield l) #[] #[]] W fun e W' => (∃ v, e = .returned v) ∧
      ((∃ ys, ys = ptsS ∧ J ys W') ∨ (∃ pre, (∃ k, pre = ptsS.take k) ∧ Jx pre W')) := by
  have HY := Lib.hid hY; have HJ := Lib.hid hJ; have HJx := Lib.hid hJx
  have hro : Fence.wide.round = none := rfl
  clear hY hJ hJx
  refine callsIn_of_wp_marks Tryd.func18 rfl trivial ?_ hro
  simp only [Tryd.ntmps18, List.size_toArray, List.length_cons, List.length_nil, Nat.reduceAdd, Nat.reduceSub, Array.replicate_succ, Array.replicate_zero, List.push_toArray, List.append_toArray, List.nil_append, List.cons_append]
  gi_wp2
  refine ⟨trivial, fun _ => by omega, (callsIn_wide.2 (fields_pts _ (by kernel_rfl) _)).mono ?_⟩
  rintro e w' ⟨rfl, s, hs, rfl⟩
  have bY := (((Boxed.new W 41 (.func (.yield l) #[] #[])).alloc (.cells #[.int .i64 0] 3)).alloc (.cells #[.bool true] 4)).alloc (.cells #[.string s] 9)
  have bX := ((Boxed.new (W.alloc (.cells #[.func (.yield l) #[] #[]] 41)) 3 (.int .i64 0)).alloc (.cells #[.bool true] 4)).alloc (.cells #[.string s] 9)
  have bE := (Boxed.new ((W.alloc (.cells #[.func (.yield l) #[] #[]] 41)).alloc (.cells #[.int .i64 0] 3)) 4 (.bool true)).alloc (.cells #[.string s] 9)
  have bS := Boxed.new (((W.alloc (.cells #[.func (.yield l) #[] #[]] 41)).alloc (.cells #[.int .i64 0] 3)).alloc (.cells #[.bool true] 4)) 9 (.string s)
  have hb1 : Below W.heap.size W ((((W.alloc (.cells #[.func (.yield l) #[] #[]] 41)).alloc (.cells #[.int .i64 0] 3)).alloc (.cells #[.bool true] 4)).alloc (.cells #[.string s] 9)) :=
    ((((Below.refl _ W).alloc (Nat.le_refl _) _).alloc (by simp) _).alloc (by simp; omega) _).alloc (by simp; omega) _
  have hz1 : ((((W.alloc (.cells #[.func (.yield l) #[] #[]] 41)).alloc (.cells #[.int .i64 0] 3)).alloc (.cells #[.bool true] 4)).alloc (.cells #[.string s] 9)).heap.size = B + 4 := by simp [hB]
  simp only [World.size_alloc, hB] at bY bX bE bS hb1 ⊢
  have hsp1 := hsp.of_block (hb1.block _ hgl)
  have h01 := HJ.out _ _ _ h0 hb1
  generalize (((W.alloc (.cells #[.func (.yield l) #[] #[]] 41)).alloc (.cells #[.int .i64 0] 3)).alloc (.cells #[.bool true] 4)).alloc (.cells #[.string s] 9) = w1 at *
  have HS := Lib.hid hs
  have hsz := pts_size hs
  clear hb1 h0 hsp hs
  gi_wp2
  refine wpIn_rangeFunc_seq hro (by omega) (gf := 21) (lb := #[.pointer (some ⟨B + 1 + 1 + 1, 0, none⟩)]) rfl trivial (enters_of Tryd.func21 (by kernel_rfl) rfl)
    (fields_stops (n - 1) (by omega) (B + 1 + 1 + 1) s words (by rw [HS.out]; exact scan_pts) (by omega) (by rw [HS.out]; exact pts_low) w1 (by omega) (by omega) bS.cell hsp1) (Below.refl _ _) (by simp; omega) (fun _ => rfl)
    (fun pre W' => (Boxed W' B 41 (.func (.yield l) #[] #[]) ∧ Boxed W' (B + 1 + 1) 4 (.bool (decide (pre.length % 2 = 0))) ∧ ∃ v, Boxed W' (B + 1) 3 (.int .i64 v) ∧ (pre.length % 2 = 1 → ∃ q y, pre = q ++ [y] ∧ v = (valS y).1)) ∧ J (two (pre.map valS)) W')
    (fun c pre W' => c = .ret ∧ Jx (two (pre.map valS)) W')
    ?locI ?locIx ⟨⟨bY, bE, 0, bX, by simp⟩, h01⟩
    (fun x a' _ => a' = { tmps := #[.func (.yield l) #[] #[], .pointer (some ⟨B, 0, none⟩), .pointer (some ⟨B + 1, 0, none⟩), .pointer (some ⟨B + 1 + 1, 0, none⟩), .string (s.extract x.1.1 x.1.2), undef, undef, .func (.func 21) #[] #[.pointer (some ⟨B + 1 + 1 + 1, 0, none⟩)], .string (s.extract x.1.1 x.1.2), undef, undef, undef, undef, undef, undef, undef, undef, undef, undef, undef, undef, undef, undef, undef, undef], defers := [] })
    (fun _ _ _ _ h => h) ?assign ?body ?done ?stop
  case locI =>
    rintro pre A C ⟨⟨h1, h2, v, h3, h4⟩, h5⟩ hb
    exact ⟨⟨(hb.block _ (by omega)).trans h1, (hb.block _ (by omega)).trans h2, v, (hb.block _ (by omega)).trans h3, h4⟩, HJ.out _ _ _ h5 (hb.mono (by omega))⟩
  case locIx =>
    rintro c pre A C ⟨h1, h2⟩ hb
    exact ⟨h1, HJx.out _ _ _ h2 (hb.mono (by omega))⟩
  case assign =>
    rintro l2 pre x W' K hz hI hK
    unfold encW
    dsimp only
    gi_wp2
    exact hK _ _ (Leaves.refl _ _ _) hI rfl
  case body =>
    rintro l2 pre x a' W' hz ⟨⟨bY1, bE1, v, bX1, hv⟩, hJ1⟩ rfl hlen
    have hsh : x.1.2 - x.1.1 ≤ 18 ∧ x.1.1 ≤ x.1.2 ∧ x.1.2 ≤ 528 := by simpa using List.all_eq_true.1 words_short x.1 x.2
    have hex : (s.extract x.1.1 x.1.2).data.toList = (pts.drop x.1.1).take (x.1.2 - x.1.1) := by rw [Lib.extract_data, HS.out]
    have hat : Lib.atoi (s.extract x.1.1 x.1.2).data.toList = some (valS x).1 := by rw [hex]; exact valS_eq x
    have hsl : (s.extract x.1.1 x.1.2).size ≤ 18 := by
      have := congrArg List.length hex
      rw [List.length_take, List.length_drop, pts_length] at this
      have h2 : (s.extract x.1.1 x.1.2).data.toList.length = (s.extract x.1.1 x.1.2).size := by rw [Array.length_toList]; rfl
      omega
    have HAT := Lib.hid hat; have HV := Lib.hid hv; have HJ1 := Lib.hid hJ1
    have hvl := (valS x).2
    clear hex hat hv hJ1
    generalize s.extract x.1.1 x.1.2 = sx at *
    gi_wp2
    refine ⟨trivial, fun h => by simp [Fence.wide] at h, (CallsIn.inRound l2 (callsIn_wide.2 (Tryd.strconv_Atoi sx (valS x).1 hsl HAT.out _))).mono ?_⟩
    rintro e w2 ⟨rfl, u, rfl⟩
    have hbb : Below W'.heap.size W' (Lib.bytesWorld W' 5 u) := bytes_below (Below.refl _ _) (Nat.le_refl _) _ _
    have hlv : Leaves w1.heap.size [B + 1 + 1 + 1, 0] W' (Lib.bytesWorld W' 5 u) := Leaves.of_below hbb
    generalize Lib.bytesWorld W' 5 u = w2 at *
    have bY2 : Boxed w2 B 41 (.func (.yield l) #[] #[]) := (hbb.block _ bY1.lt).trans bY1
    have bE2 : Boxed w2 (B + 1 + 1) 4 (.bool (decide (pre.length % 2 = 0))) := (hbb.block _ bE1.lt).trans bE1
    have bX2 : Boxed w2 (B + 1) 3 (.int .i64 v) := (hbb.block _ bX1.lt).trans bX1
    have HJ2 := Lib.hid (HJ.out _ _ _ HJ1.out (hbb.mono (by omega)))
    have HLV := Lib.hid hlv
    have hz2 := hbb.size
    clear hbb hlv HJ1 bY1 bE1 bX1
    by_cases hpar : pre.length % 2 = 0
    · rw [decide_eq_true hpar] at bE2
      have cE := bE2.cell
      have fE := bE2.frozen
      have cX := (bX2.other (show B + 1 ≠ B + 1 + 1 by omega) (.bool false)).cell
      have fX := (bX2.other (show B + 1 ≠ B + 1 + 1 by omega) (.bool false)).frozen
      have bX3 := (bX2.other (show B + 1 ≠ B + 1 + 1 by omega) (.bool false)).set (.int .i64 (valS x).1)
      have bE3 := (bE2.set (.bool false)).other (show B + 1 + 1 ≠ B + 1 by omega) (.int .i64 (valS x).1)
      have bY3 := (bY2.other (show B ≠ B + 1 + 1 by omega) (.bool false)).other (show B ≠ B + 1 by omega) (.int .i64 (valS x).1)
      gi_wp2
      refine ⟨(HLV.out.setCell (p := ⟨B + 1 + 1, 0, none⟩) (.inr ⟨by dsimp only; omega, by first | (simp; done) | (simp; omega)⟩) _).setCell (p := ⟨B + 1, 0, none⟩) (.inr ⟨by dsimp only; omega, by first | (simp; done) | (simp; omega)⟩) _, ⟨bY3, ?_, _, bX3, fun _ => ⟨pre, x, rfl, rfl⟩⟩, ?_⟩
      · rw [decide_eq_false (by rw [List.length_append, List.length_singleton]; omega)]; exact bE3
      · rw [List.map_append, List.map_singleton, two_odd _ _ (by rw [List.length_map]; exact hpar)]
        exact HJ.out _ _ _ HJ2.out (((Below.refl _ w2).setCell (p := ⟨B + 1 + 1, 0, none⟩) (by dsimp only; omega) _).setCell (p := ⟨B + 1, 0, none⟩) (by dsimp only; omega) _)
    · rw [decide_eq_false hpar] at bE2
      have hpar1 : pre.length % 2 = 1 := by omega
      obtain ⟨q, y, hq, rfl⟩ := HV.out hpar1
      have cE := bE2.cell
      have fE := bE2.frozen
      have cX := (bX2.other (show B + 1 ≠ B + 1 + 1 by omega) (.bool true)).cell
      have cY := (bY2.other (show B ≠ B + 1 + 1 by omega) (.bool true)).cell
      have hql : q.length % 2 = 0 := by rw [hq, List.length_append, List.length_singleton] at hpar1; omega
      have htwo : two ((pre ++ [x]).map valS) = two (q.map valS) ++ [(valS y, valS x)] := by
        rw [hq, List.map_append, List.map_append, List.map_singleton, List.map_singleton]
        exact two_even _ _ _ (by rw [List.length_map]; exact hql)
      have hJq : J (two (q.map valS)) (w2.setCell ⟨B + 1 + 1, 0, none⟩ (.bool true)) := by
        have h := HJ2.out
        rw [hq, List.map_append, List.map_singleton, two_odd _ _ (by rw [List.length_map]; exact hql)] at h
        exact HJ.out _ _ _ h ((Below.refl _ w2).setCell (p := ⟨B + 1 + 1, 0, none⟩) (by dsimp only; omega) _)
      have hq2 : (two (q.map valS)).length < 120 := by
        rw [two_length, List.length_map]
        rw [words_length, hq, List.length_append, List.length_singleton] at hlen
        omega
      obtain ⟨fn, tmps, assign, body, hy, hR⟩ := HY.out (two (q.map valS)) (valS y, valS x) (w2.setCell ⟨B + 1 + 1, 0, none⟩ (.bool true)) hJq (by simp [World.setCell]; omega) hq2
      unfold encPt at hy
      dsimp only at hy
      have HTW := Lib.hid htwo
      have HP := Lib.hid hpar1
      have HR := Lib.hid (hR.mono (R' := fun e W3 => ∃ bb : Bool, e = .returned (.bool bb) ∧ Hid (bb = true → J (two ((pre ++ [x]).map valS)) W3) ∧ Hid (bb = false → Jx (two ((pre ++ [x]).map valS)) W3) ∧ Hid (Leaves B [0] (w2.setCell ⟨B + 1 + 1, 0, none⟩ (.bool true)) W3)) (fun e W3 h => by
        rcases h with ⟨⟨rfl, h1⟩ | ⟨rfl, h1⟩, h2⟩
        · exact ⟨true, rfl, fun _ => by rw [HTW.out]; exact h1, fun h => (by cases h), h2⟩
        · exact ⟨false, rfl, fun h => (by cases h), fun _ => by rw [HTW.out]; exact h1, h2⟩))
      have bE3 := bE2.set (.bool true)
      have bY3 := bY2.other (show B ≠ B + 1 + 1 by omega) (.bool true)
      have bX3 := bX2.other (show B + 1 ≠ B + 1 + 1 by omega) (.bool true)
      have hlv3 := HLV.out.setCell (p := ⟨B + 1 + 1, 0, none⟩) (.inr ⟨by dsimp only; omega, by first | (simp; done) | (simp; omega)⟩) (.bool true)
      have HB3 := Lib.hid (And.intro bE3 (And.intro bY3 bX3)); have HL3 := Lib.hid hlv3
      clear hR htwo hJq hq2 hpar hpar1 hq hql bE3 bY3 bX3 hlv3
      gi_wp2
      refine ⟨fun h => (by simp [Fence.wide] at h), (RoundIn.inside (RoundIn.any HR.out)).mono ?_⟩
      rintro e W3 ⟨bb, rfl, h1, h2, h3⟩
      have HLF := Lib.hid (HL3.out.trans (h3.out.mono (B' := w1.heap.size) (Ks' := [B + 1 + 1 + 1, 0]) (fun k hk => by rcases hk with hk | hk; exact .inl (by omega); simp at hk; rcases hk with hk | hk; exact .inl (by omega); exact .inr (by simp [hk]))))
      have hzz : w2.heap.size = (w2.setCell ⟨B + 1 + 1, 0, none⟩ (.bool true)).heap.size := by simp [World.setCell]
      cases bb
      · gi_wp2
        exact ⟨HLF.out, rfl, h2.out (by first | rfl | trivial)⟩
      · gi_wp2
        refine ⟨HLF.out, ⟨(h3.out.same _ (.inl (by omega)) (by omega)).trans HB3.out.2.1, ?_, _, (h3.out.same _ (.inl (by omega)) (by omega)).trans HB3.out.2.2, fun h => ?_⟩, h1.out (by first | rfl | trivial)⟩
        · rw [decide_eq_true (by rw [List.length_append, List.length_singleton]; have := HP.out; omega)]
          exact (h3.out.same _ (.inl (by omega)) (by omega)).trans HB3.out.1
        · rw [List.length_append, List.length_singleton] at h
          have := HP.out
          omega
  case done =>
    rintro ys W' rfl ⟨_, hJ1⟩ hd hz
    have HJ1 := Lib.hid hJ1
    clear hJ1
    gi_wp2
    refine ⟨by simp, .inl ⟨_, _, rfl, run_takeDeferred hd, ?_⟩⟩
    exact ⟨_, results_none rfl _ _ _, ⟨_, rfl⟩, .inl ⟨_, rfl, HJ.out _ _ _ HJ1.out ⟨rfl, rfl, rfl, by simp, fun k hk => World.putObj_heap_other (by omega)⟩⟩⟩
  case stop =>
    rintro c pre W' ⟨k, rfl⟩ ⟨rfl, hJ1⟩ hd hz
    have HJ1 := Lib.hid hJ1
    clear hJ1
    gi_wp2
    refine ⟨by simp, .inl ⟨_, _, rfl, run_takeDeferred hd, ?_⟩⟩
    refine ⟨_, results_none rfl _ _ _, ⟨_, rfl⟩, .inr ⟨_, ⟨k / 2, ?_⟩, HJx.out _ _ _ HJ1.out ⟨rfl, rfl, rfl, by simp, fun k hk => World.putObj_heap_other (by omega)⟩⟩⟩
    rw [List.map_take, two_take]; rfl

theorem all_stops (n : Nat) (hn : 3 ≤ n) (w : World) (hgl : 0 < w.heap.size) (hsp : Spaces w) :
    SeqOwn Fence.wide n Tryd.prog 18 #[] encPt [0] (fun ys => ys = ptsS) (fun pre => ∃ k, pre = ptsS.take k) 120 w :=
  fun l J Jx W hW hJ hJx hY h0 =>
    all1_in n hn l W.heap.size J Jx hJ hJx hY W rfl (by have := hW.size; omega) (hsp.of_block (hW.block _ hgl)) h0
end Go.Proofs.YtoanhnebalapeaaDoor
