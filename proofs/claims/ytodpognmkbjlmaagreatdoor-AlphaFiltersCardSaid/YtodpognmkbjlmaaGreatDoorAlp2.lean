/- alpha.Forth, alpha.Back. -/
import Derived.Test.YtodpognmkbjlmaaGreatDoorAlp1
import Derived.Deep.RegionHeld3
namespace Go.Proofs.YtodpognmkbjlmaaGreatDoor
open Go.RowKit
open Go.Proofs.YtodpognmkbjlmaaGreatDoorW.PrintWords

set_option maxHeartbeats 1000000 in
theorem cloneB (ad : Addr) (n c : Nat) (xs : List Int) (w : World) (HR : ReadsInt w .u8 (some ad) n xs) (hn : n ≤ 17592186044416) :
    Calls Tryz.prog 15 #[.slice (some ad) n c] w fun e w' => ∃ v, e = .returned v ∧ w'.ownsRow w.heap.size 5 1 v n (nums .u8 xs) ∧ Below w.heap.size w w' := by
  have HRR := Lib.hid HR
  have hbl := HR.1
  clear HR
  have hnil : ∀ W, (binOp .eql 22 (.slice (some ad) n c) (.slice none 0 0)).run Tryz.prog W = .ok (.bool false) W := fun W => Lib.run_eql_slice_nil W 22 5 (some ad) n c 0 0 Tryz.underlying22
  go_enter Tryz.func15, Tryz.ntmps15
  go_wp2_with (at_builtin; refine print_append_row w.heap.size rfl _ _ 22 5 .u8 1 rfl Tryz.underlying22 info_u8 (by decide) _ [] xs (some ad) n c rfl rfl (by exact own_lit w w.heap.size 5 .u8 [] (Nat.le_refl _) (by decide)) (by exact HRR.out.below ((Below.refl _ w).alloc (Nat.le_refl _) _)) ((Below.refl _ w).alloc (Nat.le_refl _) _) (by simp) (by simp; omega) ?_)
  intro v1 w1 hown hB1 _ _
  obtain ⟨A1, c1, rfl, hR1⟩ := own_reads hown
  have HO := Lib.hid hown; have HB := Lib.hid hB1
  clear hown hB1 hR1
  have HL := Lib.hid hbl
  clear hbl
  go_wp2_with fail
  go_ret
  exact ⟨_, rfl, HO.out, HB.out⟩
theorem nums_set8 (cur : List Int) (j : Nat) (x : Int) : nums .u8 (cur.set j x) = (nums .u8 cur).set j (.int .u8 x) := by simp [nums, List.map_set]
/-- What stands of the bytes that are told till a place. -/
def foS (f W : Nat) (a : List Int) (n t : Nat) : List Int := (List.range n).map fun j => if j < t then Alp.fo f W a j else a.getD j 0
theorem getD_rng (n : Nat) (f : Nat → Int) (j : Nat) (hj : j < n) : ((List.range n).map f).getD j 0 = f j := by
  rw [List.getD_eq_getElem?_getD, List.getElem?_map, List.getElem?_range hj]; rfl
theorem list_rng (ls : List Int) (n : Nat) (h : ls.length = n) : (List.range n).map (fun j => ls.getD j 0) = ls := by
  apply List.ext_getElem (by simp [h])
  intro i h1 h2
  simp [List.getD_eq_getElem?_getD, List.getElem?_eq_getElem h2]
theorem foS_zero (f W : Nat) (a : List Int) (n : Nat) (h : a.length = n) : foS f W a n 0 = a := by
  have : foS f W a n 0 = (List.range n).map fun j => a.getD j 0 := by
    unfold foS; apply List.map_congr_left; intro j _; rw [if_neg (by omega)]
  rw [this, list_rng a n h]
theorem foS_all (f W : Nat) (a : List Int) (n : Nat) : foS f W a n n = Alp.foL f W a n := by
  unfold foS Alp.foL; apply List.map_congr_left; intro j hj; rw [if_pos (List.mem_range.1 hj)]
theorem foS_at (f W : Nat) (a : List Int) (n t : Nat) (h : t < n) : rd (foS f W a n t) t = a.getD t 0 := by
  unfold rd foS; rw [Int.toNat_natCast, getD_rng n _ t h, if_neg (by omega)]
theorem foS_set (f W : Nat) (a : List Int) (n t : Nat) (_ : t < n) : (foS f W a n t).set t (Alp.fo f W a t) = foS f W a n (t + 1) := by
  apply List.ext_getElem (by simp [foS])
  intro j h3 h4
  simp only [foS, List.getElem_set, List.getElem_map, List.getElem_range]
  by_cases hij : t = j
  · subst hij; rw [if_pos rfl, if_pos (by omega)]
  · rw [if_neg hij]
    by_cases hlt : j < t
    · rw [if_pos hlt, if_pos (by omega)]
    · rw [if_neg hlt, if_neg (by omega)]
def baS (f W : Nat) (b : List Int) (n t : Nat) : List Int := (List.range n).map fun j => if j < t then (Alp.baL f W b n).getD j 0 else b.getD j 0
theorem baS_zero (f W : Nat) (a : List Int) (n : Nat) (h : a.length = n) : baS f W a n 0 = a := by
  have : baS f W a n 0 = (List.range n).map fun j => a.getD j 0 := by
    unfold baS; apply List.map_congr_left; intro j _; rw [if_neg (by omega)]
  rw [this, list_rng a n h]
theorem baS_all (f W : Nat) (a : List Int) (n : Nat) : baS f W a n n = Alp.baL f W a n := by
  have : baS f W a n n = (List.range n).map fun j => (Alp.baL f W a n).getD j 0 := by
    unfold baS; apply List.map_congr_left; intro j hj; rw [if_pos (List.mem_range.1 hj)]
  rw [this, list_rng _ n (Alp.baL_len f W a n)]
theorem baS_at (f W : Nat) (a : List Int) (n t : Nat) (h : t < n) : rd (baS f W a n t) t = a.getD t 0 := by
  unfold rd baS; rw [Int.toNat_natCast, getD_rng n _ t h, if_neg (by omega)]
theorem baS_get (f W : Nat) (a : List Int) (n t j : Nat) (h : t ≤ n) (hj : j < t) : (baS f W a n t).getD j 0 = (Alp.baL f W a n).getD j 0 := by
  unfold baS; rw [getD_rng n _ j (by omega), if_pos hj]
theorem baS_set (f W : Nat) (a : List Int) (n t : Nat) (hW : 1 ≤ W) (h : t < n) : (baS f W a n t).set t ((a.getD t 0 + Alp.gs f W (fun j => (baS f W a n t).getD j 0) t) % 256) = baS f W a n (t + 1) := by
  have e : (a.getD t 0 + Alp.gs f W (fun j => (baS f W a n t).getD j 0) t) % 256 = (Alp.baL f W a n).getD t 0 := by
    rw [Alp.baL_pre f W a (s := t + 1) (by omega) n (by omega), Alp.baL_last, Alp.gs_congr (g' := fun j => (Alp.baL f W a t).getD j 0) hW (fun j hj => by rw [baS_get f W a n t j (by omega) hj]; exact Alp.baL_pre f W a hj n (by omega))]
  rw [e]
  apply List.ext_getElem (by simp [baS])
  intro j h3 h4
  simp only [baS, List.getElem_set, List.getElem_map, List.getElem_range]
  by_cases hij : t = j
  · subst hij; rw [if_pos rfl, if_pos (by omega)]
  · rw [if_neg hij]
    by_cases hlt : j < t
    · rw [if_pos hlt, if_pos (by omega)]
    · rw [if_neg hlt, if_neg (by omega)]
theorem baS_lt (f W : Nat) (a : List Int) (n t : Nat) (ha : ∀ x ∈ a, 0 ≤ x ∧ x ≤ 255) : ∀ x ∈ baS f W a n t, 0 ≤ x ∧ x ≤ 255 := by
  intro x hx
  obtain ⟨j, _, rfl⟩ := List.mem_map.1 hx
  split
  · exact Alp.getD_255 (Alp.baL_lt f W a n) j
  · exact Alp.getD_255 ha j

theorem results_two {fn : Func} {t u : Tmp} (h : fn.results = #[.tmp t, .tmp u]) (tmps : Array Value) (P : Program) (w : World) :
    (results fn tmps).run P w = .ok (.tuple #[tmps.getD t undef, tmps.getD u undef]) w := by simp [results, h]
theorem forthA_bad (W H f : Int) (A : Option Addr) (n c : Nat) (w : World) (hb : (goodI W H n && (decide (0 ≤ f) && decide (f ≤ 3))) = false) :
    Calls Tryz.prog 6 #[.agg #[.int .i64 W, .int .i64 H, .slice A n c], .int .i64 f] w fun e w' => e = .returned (.tuple #[.slice none 0 0, .bool false]) ∧ Below w.heap.size w w' := by
  have hb0 := (Below.refl _ w).alloc (Nat.le_refl _) (.cells #[.int .i64 W, .int .i64 H, .slice A n c] 24)
  have HB0 := Lib.hid hb0
  clear hb0
  cases hg : goodI W H n with
  | false =>
    have HG := Lib.hid hg
    clear hg hb
    go_enter Tryz.func6, Tryz.ntmps6
    go_wp2_with fail
    refine (goodPl_any W H A n c _).mono ?_
    rw [HG.out]
    rintro e w1 ⟨rfl, hB⟩
    have HB1 := Lib.hid (below_then HB0.out HB0.out.size hB)
    clear hB
    go_wp2_with fail
    refine bodyPost_ret (results_two rfl _ _ _) rfl ?_
    exact ⟨rfl, HB1.out⟩
  | true =>
    have HG := Lib.hid hg
    rw [hg, Bool.true_and] at hb
    have HF := Lib.hid (fun wz => filter_b f wz false hb)
    clear hg hb
    go_enter Tryz.func6, Tryz.ntmps6
    go_wp2_with fail
    refine (goodPl_any W H A n c _).mono ?_
    rw [HG.out]
    rintro e w1 ⟨rfl, hB⟩
    have HB1 := Lib.hid (below_then HB0.out HB0.out.size hB)
    clear hB
    go_wp2_with fail
    refine (HF.out _).mono ?_
    rintro e w' ⟨rfl, rfl⟩
    go_wp2_with fail
    refine bodyPost_ret (results_two rfl _ _ _) rfl ?_
    exact ⟨rfl, HB1.out⟩
set_option maxHeartbeats 4000000 in
theorem forthA_good (W H f : Nat) (ad : Addr) (n c : Nat) (bs : List Int) (w : World) (HR : ReadsInt w .u8 (some ad) n bs) (hbs : ∀ v ∈ bs, 0 ≤ v ∧ v ≤ 255) (hn0 : 0 < n) (hn : n ≤ 100000) (hW : 1 ≤ W ∧ W ≤ 16384) (hg : goodI W H n = true) (hf : f ≤ 3) :
    Calls Tryz.prog 6 #[.agg #[.int .i64 W, .int .i64 H, .slice (some ad) n c], .int .i64 f] w fun e w' => Below w.heap.size w w' ∧ ∃ A2 c2, e = .returned (.tuple #[.slice A2 n c2, .bool true]) ∧ ReadsInt w' .u8 A2 n (Alp.foL f W bs n) := by
  have hb0 := (Below.refl _ w).alloc (Nat.le_refl _) (.cells #[.int .i64 (W : Int), .int .i64 (H : Int), .slice (some ad) n c] 24)
  have HB0 := Lib.hid hb0
  have HN0 := Lib.hid (alloc_new w #[.int .i64 (W : Int), .int .i64 (H : Int), .slice (some ad) n c] 24)
  have HR0 := Lib.hid (HR.below hb0)
  have HG := Lib.hid hg; have HBS := Lib.hid hbs; have HLN := Lib.hid HR.1
  have HRW := Lib.hid HR
  have HF := Lib.hid (fun wz => filter_b (f : Int) wz true (by rw [decide_eq_true (show (0 : Int) ≤ f by omega), decide_eq_true (show (f : Int) ≤ 3 by omega)]; rfl))
  clear hb0 HR hg hbs
  go_enter Tryz.func6, Tryz.ntmps6
  go_wp2_with fail
  refine (goodPl_any W H (some ad) n c _).mono ?_
  rw [HG.out]
  rintro e w1 ⟨rfl, hB⟩
  have hz1 : w.heap.size + 1 ≤ w1.heap.size := by have := hB.size; simp at this; omega
  have HN1 := Lib.hid ((Mods.of_below hB []).blk HN0.out (by simp))
  have HR1 := Lib.hid (HR0.out.below hB)
  have HB1 := Lib.hid (below_then HB0.out HB0.out.size hB)
  obtain ⟨x0, x1, x2, _, _, _⟩ := box3 HN1.out
  clear hB
  go_wp2_with fail
  refine (HF.out _).mono ?_
  rintro e w' ⟨rfl, rfl⟩
  go_wp2_with fail
  refine (cloneB ad n c bs w1 HR1.out (by omega)).mono ?_
  rintro e w2 ⟨v, rfl, hO, hB⟩
  have hform : ∃ g cp, v = .slice (some ⟨g, 0, none⟩) n cp ∧ w1.heap.size ≤ g ∧ g < w2.heap.size := some_own hO hn0
  obtain ⟨g, cp, rfl, hg1, hg2⟩ := hform
  have hz2 := hB.size
  have HN2 := Lib.hid ((Mods.of_below hB []).blk HN1.out (by simp))
  have HB2 := Lib.hid (below_then HB1.out HB1.out.size hB)
  have HO2 := Lib.hid hO
  clear hB hO x0 x1 x2
  obtain ⟨x0, x1, x2, _, _, _⟩ := box3 HN2.out
  go_wp2_with fail
  have HO3 := Lib.hid (own_alloc HO2.out (.cells #[.int .i64 (W : Int), .slice (some ad) n c] 42))
  have HN3 := Lib.hid ((((Below.refl _ w2).alloc (Nat.le_refl _) (.cells #[.int .i64 (W : Int), .slice (some ad) n c] 42)).block w.heap.size (by omega)).trans HN2.out)
  have HY3 := Lib.hid (alloc_new w2 #[.int .i64 (W : Int), .slice (some ad) n c] 42)
  have HB3 := Lib.hid (HB2.out.alloc (by omega) (.cells #[.int .i64 (W : Int), .slice (some ad) n c] 42))
  clear x0 x1 x2
  rw [show bs = foS f W bs n 0 from (foS_zero f W bs n HLN.out).symm] at HO3
  generalize hw3 : w2.alloc (.cells #[.int .i64 (W : Int), .slice (some ad) n c] 42) = w3 at *
  have hz3 : w3.heap.size = w2.heap.size + 1 := by rw [← hw3]; simp
  clear hw3
  generalize w2.heap.size = Y at *
  go_loopw [8, 27] (fun _ tv wr => ∃ t : Nat, t ≤ n ∧ tv = .int .i64 t ∧ Hid (wr.ownsRow w1.heap.size 5 1 (.slice (some ⟨g, 0, none⟩) n cp) n (nums .u8 (foS f W bs n t))) ∧ Hid (wr.heap[w.heap.size]? = some (.cells #[.int .i64 (W : Int), .int .i64 (H : Int), .slice (some ad) n c] 24 (0, 0))) ∧ Hid (wr.heap[Y]? = some (.cells #[.int .i64 (W : Int), .slice (some ad) n c] 42 (0, 0))) ∧ Hid (Below w.heap.size w wr)) (fun _ tv _ => n - (intOf tv).toNat)
  case atStart => exact ⟨0, Nat.zero_le _, rfl, HO3, HN3, HY3, HB3⟩
  case round =>
    clear HO3 HN3 HY3 HB3
    obtain ⟨t, ht, rfl, HO, HN, HY, HBr⟩ := hrel
    by_cases hlt : t < n
    · obtain ⟨x0, x1, x2, _, _, _⟩ := box3 HN.out
      have y0 : wr.cell? ⟨Y, 0, none⟩ = some (.int .i64 (W : Int)) := by rw [cell_blk HY.out]; rfl
      have y1 : wr.cell? ⟨Y, 1, none⟩ = some (.slice (some ad) n c) := by rw [cell_blk HY.out]; rfl
      obtain ⟨ct, ft⟩ := own_at HO.out (t : Int) (by omega) (by omega)
      rw [foS_at f W bs n t hlt, Int.toNat_natCast] at ct
      rw [Int.toNat_natCast] at ft
      obtain ⟨x, hx⟩ : ∃ x, t % W = x := ⟨_, rfl⟩
      obtain ⟨y, hy⟩ : ∃ y, t / W = y := ⟨_, rfl⟩
      have hxW : x < W := by rw [← hx]; exact Nat.mod_lt _ (by omega)
      have htt : y * W + x = t := by rw [← hx, ← hy, Nat.mul_comm]; exact Nat.div_add_mod t W
      have q1 : (t : Int) % (W : Int) = (x : Int) := by rw [← hx]; norm_cast
      have q2 : (t : Int) / (W : Int) = (y : Int) := by rw [← hy]; norm_cast
      have q3 : (t : Int).tmod (W : Int) = (x : Int) := by rw [Int.tmod_eq_emod_of_nonneg (by omega)]; exact q1
      have q4 : (t : Int).tdiv (W : Int) = (y : Int) := by rw [Int.tdiv_eq_ediv_of_nonneg (by omega)]; exact q2
      have hyt : y ≤ t := by rw [← hy]; exact Nat.div_le_self _ _
      have q5 : IntKind.i64.wrap (y : Int) = (y : Int) := IntWalk.i64_in _ (by omega)
      have q6 : ¬ (W : Nat) = 0 := by omega
      have q7 : ((W : Int) == 0) = false := beq_eq_false_iff_ne.2 (by omega)
      have k1 : (0 : Int) ≤ (t : Int) := by omega
      have k2 : (t : Int) < (n : Int) := by omega
      have hset := foS_set f W bs n t hlt
      have hgs := Alp.gs_le (f := f) (W := W) (t := t) (fun j => Alp.getD_255 HBS.out j)
      have GU := Lib.hid (fun wz (h : ReadsInt wz .u8 (some ad) n bs) => guess_any f W n c x y t (some ad) bs wz h HBS.out hxW htt hlt (by omega) hf)
      unfold Alp.fo at hset
      generalize Alp.gs f W (fun j => bs.getD j 0) t = gv at *
      obtain ⟨bv, hbv⟩ : ∃ bv, bs.getD t 0 = bv := ⟨_, rfl⟩
      rw [hbv] at hset ct
      have HBV := Lib.hid hbv
      clear hbv
      have HSET := Lib.hid hset
      have HBq := Lib.hid (show Below wr.heap.size wr wr.drew from below_drew (Below.refl _ wr))
      have hXw : w.heap.size < wr.heap.size := blk_lt HN.out
      have hYw : Y < wr.heap.size := blk_lt HY.out
      have hgY : g ≠ Y := by omega
      have hgX : g ≠ w.heap.size := by omega
      clear hset hx hy
      go_upto_region 8 with fail
      refine wp_region_noPanic ?_
      refine wp_region_held_drew (S := fun w' => w'.cell? ⟨w.heap.size, 0, none⟩ = some (.int .i64 (W : Int)) ∧ w'.cell? ⟨Y, 0, none⟩ = some (.int .i64 (W : Int)) ∧ w'.cell? ⟨Y, 1, none⟩ = some (.slice (some ad) n c)) (by kernel_rfl) ⟨x0, y0, y1⟩ (fun hHeld => ?_)
      refine wpAnyH_take (i := 0) (oi := _) (v := ?_) (by simp only [List.getElem?_toArray, List.getElem?_cons_zero]; rfl) (by kernel_rfl) (by kernel_rfl) (by kernel_rfl) (fun _ _ _ h => h) (Or.inl ⟨by rfl, ?_⟩) hHeld ?_
      rotate_left 1
      · intro wS hSw
        try dsimp only at hSw
        obtain ⟨sa, sb, sc⟩ := hSw
        first | (go_simp; done) | (go_simp; with_reducible rfl)
      try simp only [Act.put, List.setIfInBounds_toArray, List.set_cons_zero, List.set_cons_succ]
      refine wpAnyH_take (i := 1) (oi := _) (v := ?_) (by simp only [List.getElem?_toArray, List.getElem?_cons_succ, List.getElem?_cons_zero]; rfl) (by kernel_rfl) (by kernel_rfl) (by kernel_rfl) (fun _ _ _ h => h) (Or.inl ⟨by rfl, ?_⟩) hHeld ?_
      rotate_left 1
      · intro wS hSw
        try dsimp only at hSw
        obtain ⟨sa, sb, sc⟩ := hSw
        first | (go_simp; done) | (go_simp; with_reducible rfl)
      try simp only [Act.put, List.setIfInBounds_toArray, List.set_cons_zero, List.set_cons_succ]
      refine wpAnyH_take (i := 2) (oi := _) (v := ?_) (by simp only [List.getElem?_toArray, List.getElem?_cons_succ, List.getElem?_cons_zero]; rfl) (by kernel_rfl) (by kernel_rfl) (by kernel_rfl) (fun _ _ _ h => h) (Or.inl ⟨by rfl, ?_⟩) hHeld ?_
      rotate_left 1
      · intro wS hSw
        try dsimp only at hSw
        obtain ⟨sa, sb, sc⟩ := hSw
        first | (go_simp; done) | (go_simp; with_reducible rfl)
      try simp only [Act.put, List.setIfInBounds_toArray, List.set_cons_zero, List.set_cons_succ]
      refine wpAnyH_take (i := 4) (oi := _) (v := ?_) (by simp only [List.getElem?_toArray, List.getElem?_cons_succ, List.getElem?_cons_zero]; rfl) (by kernel_rfl) (by kernel_rfl) (by kernel_rfl) (fun _ _ _ h => h) (Or.inl ⟨by rfl, ?_⟩) hHeld ?_
      rotate_left 1
      · intro wS hSw
        try dsimp only at hSw
        obtain ⟨sa, sb, sc⟩ := hSw
        first | (go_simp; done) | (go_simp; with_reducible rfl)
      try simp only [Act.put, List.setIfInBounds_toArray, List.set_cons_zero, List.set_cons_succ]
      refine wpAnyH_take (i := 5) (oi := _) (v := ?_) (by simp only [List.getElem?_toArray, List.getElem?_cons_succ, List.getElem?_cons_zero]; rfl) (by kernel_rfl) (by kernel_rfl) (by kernel_rfl) (fun _ _ _ h => h) (Or.inl ⟨by rfl, ?_⟩) hHeld ?_
      rotate_left 1
      · intro wS hSw
        try dsimp only at hSw
        obtain ⟨sa, sb, sc⟩ := hSw
        first | (go_simp; done) | (go_simp; with_reducible rfl)
      try simp only [Act.put, List.setIfInBounds_toArray, List.set_cons_zero, List.set_cons_succ]
      refine wpAnyH_take (i := 6) (oi := _) (v := ?_) (by simp only [List.getElem?_toArray, List.getElem?_cons_succ, List.getElem?_cons_zero]; rfl) (by kernel_rfl) (by kernel_rfl) (by kernel_rfl) (fun _ _ _ h => h) (Or.inl ⟨by rfl, ?_⟩) hHeld ?_
      rotate_left 1
      · intro wS hSw
        try dsimp only at hSw
        obtain ⟨sa, sb, sc⟩ := hSw
        first | (go_simp; done) | (go_simp; with_reducible rfl)
      try simp only [Act.put, List.setIfInBounds_toArray, List.set_cons_zero, List.set_cons_succ]
      refine wpAnyH_take (i := 7) (oi := _) (v := ?_) (by simp only [List.getElem?_toArray, List.getElem?_cons_succ, List.getElem?_cons_zero]; rfl) (by kernel_rfl) (by kernel_rfl) (by kernel_rfl) (fun _ _ _ h => h) (Or.inl ⟨by rfl, ?_⟩) hHeld ?_
      rotate_left 1
      · intro wS hSw
        try dsimp only at hSw
        obtain ⟨sa, sb, sc⟩ := hSw
        first | (go_simp; done) | (go_simp; with_reducible rfl)
      try simp only [Act.put, List.setIfInBounds_toArray, List.set_cons_zero, List.set_cons_succ]
      refine wpAnyH_take (i := 8) (oi := _) (v := ?_) (by simp only [List.getElem?_toArray, List.getElem?_cons_succ, List.getElem?_cons_zero]; rfl) (by kernel_rfl) (by kernel_rfl) (by kernel_rfl) (fun _ _ _ h => h) (Or.inl ⟨by rfl, ?_⟩) hHeld ?_
      rotate_left 1
      · intro wS hSw
        try dsimp only at hSw
        obtain ⟨sa, sb, sc⟩ := hSw
        first | (go_simp; done) | (go_simp; with_reducible rfl)
      try simp only [Act.put, List.setIfInBounds_toArray, List.set_cons_zero, List.set_cons_succ]
      refine wpAnyH_take (i := 9) (oi := _) (v := ?_) (by simp only [List.getElem?_toArray, List.getElem?_cons_succ, List.getElem?_cons_zero]; rfl) (by kernel_rfl) (by kernel_rfl) (by kernel_rfl) (fun _ _ _ h => h) (Or.inl ⟨by rfl, ?_⟩) hHeld ?_
      rotate_left 1
      · intro wS hSw
        try dsimp only at hSw
        obtain ⟨sa, sb, sc⟩ := hSw
        first | (go_simp; done) | (go_simp; with_reducible rfl)
      try simp only [Act.put, List.setIfInBounds_toArray, List.set_cons_zero, List.set_cons_succ]
      refine wpAnyH_take (i := 10) (oi := _) (v := ?_) (by simp only [List.getElem?_toArray, List.getElem?_cons_succ, List.getElem?_cons_zero]; rfl) (by kernel_rfl) (by kernel_rfl) (by kernel_rfl) (fun _ _ _ h => h) (Or.inl ⟨by rfl, ?_⟩) hHeld ?_
      rotate_left 1
      · intro wS hSw
        try dsimp only at hSw
        obtain ⟨sa, sb, sc⟩ := hSw
        first | (go_simp; done) | (go_simp; with_reducible rfl)
      try simp only [Act.put, List.setIfInBounds_toArray, List.set_cons_zero, List.set_cons_succ]
      refine wpAnyH_take (i := 11) (oi := _) (v := ?_) (by simp only [List.getElem?_toArray, List.getElem?_cons_succ, List.getElem?_cons_zero]; rfl) (by kernel_rfl) (by kernel_rfl) (by kernel_rfl) (fun _ _ _ h => h) (Or.inl ⟨by rfl, ?_⟩) hHeld ?_
      rotate_left 1
      · intro wS hSw
        try dsimp only at hSw
        obtain ⟨sa, sb, sc⟩ := hSw
        first | (go_simp; done) | (go_simp; with_reducible rfl)
      try simp only [Act.put, List.setIfInBounds_toArray, List.set_cons_zero, List.set_cons_succ]
      refine wpAnyH_take (i := 12) (oi := _) (v := ?_) (by simp only [List.getElem?_toArray, List.getElem?_cons_succ, List.getElem?_cons_zero]; rfl) (by kernel_rfl) (by kernel_rfl) (by kernel_rfl) (fun _ _ _ h => h) (Or.inl ⟨by rfl, ?_⟩) hHeld ?_
      rotate_left 1
      · intro wS hSw
        try dsimp only at hSw
        obtain ⟨sa, sb, sc⟩ := hSw
        first | (go_simp; done) | (go_simp; with_reducible rfl)
      try simp only [Act.put, List.setIfInBounds_toArray, List.set_cons_zero, List.set_cons_succ]
      refine wpAnyH_take (i := 13) (oi := _) (v := ?_) (by simp only [List.getElem?_toArray, List.getElem?_cons_succ, List.getElem?_cons_zero]; rfl) (by kernel_rfl) (by kernel_rfl) (by kernel_rfl) (fun _ _ _ h => h) (Or.inl ⟨by rfl, ?_⟩) hHeld ?_
      rotate_left 1
      · intro wS hSw
        try dsimp only at hSw
        obtain ⟨sa, sb, sc⟩ := hSw
        first | (go_simp; done) | (go_simp; with_reducible rfl)
      try simp only [Act.put, List.setIfInBounds_toArray, List.set_cons_zero, List.set_cons_succ]
      refine wpAnyH_ready (rs := [3, 14]) (by kernel_rfl) (by simp) ?_
      refine AllReadyH.cons (o := _) (by simp only [List.getElem?_toArray, List.getElem?_cons_succ, List.getElem?_cons_zero]; rfl) (fun K hK => ?_) ?_
      · go_simp
        refine hK.out _ _ (by first | exact ⟨x0, y0, y1⟩ | exact ⟨pw_cell_below HBq.out x0, pw_cell_below HBq.out y0, pw_cell_below HBq.out y1⟩) (fun hHeld2 => ?_)
        clear hK K hHeld
        have hHeld := hHeld2
        clear hHeld2
        try simp only [Act.put, List.setIfInBounds_toArray, List.set_cons_zero, List.set_cons_succ]
        refine wpAnyH_ready (rs := [14]) (by kernel_rfl) (by simp) ?_
        refine AllReadyH.cons (o := _) (by simp only [List.getElem?_toArray, List.getElem?_cons_succ, List.getElem?_cons_zero]; rfl) (fun K hK => ?_) ?_
        · go_simp
          refine (GU.out _ ((HRW.out.below HBr.out).below HBq.out)).mono ?_
          rintro e w5 ⟨rfl, hB⟩
          have HBq := Lib.hid (below_then HBq.out HBq.out.size hB)
          have HO5 := Lib.hid (pw_own_below HO.out HBq.out)
          obtain ⟨ct5, ft5⟩ := own_at HO5.out (t : Int) (by omega) (by omega)
          rw [Int.toNat_natCast] at ct5 ft5
          rw [foS_at f W bs n t hlt, HBV.out] at ct5
          clear hB
          refine hK.out _ _ (by first | exact ⟨x0, y0, y1⟩ | exact ⟨pw_cell_below HBq.out x0, pw_cell_below HBq.out y0, pw_cell_below HBq.out y1⟩) (fun hHeld2 => ?_)
          clear hK K hHeld
          have hHeld := hHeld2
          clear hHeld2
          try simp only [Act.put, List.setIfInBounds_toArray, List.set_cons_zero, List.set_cons_succ]
          refine wpAnyH_take (i := 15) (oi := _) (v := ?_) (by simp only [List.getElem?_toArray, List.getElem?_cons_succ, List.getElem?_cons_zero]; rfl) (by kernel_rfl) (by kernel_rfl) (by kernel_rfl) (fun _ _ _ h => h) (Or.inl ⟨by rfl, ?_⟩) hHeld ?_
          rotate_left 1
          · intro wS hSw
            try dsimp only at hSw
            obtain ⟨sa, sb, sc⟩ := hSw
            first | (go_simp; done) | (go_simp; with_reducible rfl)
          try simp only [Act.put, List.setIfInBounds_toArray, List.set_cons_zero, List.set_cons_succ]
          refine wpAnyH_take (i := 16) (oi := _) (v := ?_) (by simp only [List.getElem?_toArray, List.getElem?_cons_succ, List.getElem?_cons_zero]; rfl) (by kernel_rfl) (by kernel_rfl) (by kernel_rfl) (fun _ _ _ h => h) (Or.inl ⟨by rfl, ?_⟩) hHeld ?_
          rotate_left 1
          · intro wS hSw
            try dsimp only at hSw
            obtain ⟨sa, sb, sc⟩ := hSw
            first | (go_simp; done) | (go_simp; with_reducible rfl)
          try simp only [Act.put, List.setIfInBounds_toArray, List.set_cons_zero, List.set_cons_succ]
          refine wpAnyH_ready (rs := [17]) (by kernel_rfl) (by simp) ?_
          refine AllReadyH.cons (o := _) (by simp only [List.getElem?_toArray, List.getElem?_cons_succ, List.getElem?_cons_zero]; rfl) (fun K hK => ?_) ?_
          · go_simp
            refine hK.out _ _ (⟨(World.cell?_setCell_far _ _ _ _ (by dsimp only; omega)).trans (pw_cell_below HBq.out x0), (World.cell?_setCell_far _ _ _ _ (by dsimp only; omega)).trans (pw_cell_below HBq.out y0), (World.cell?_setCell_far _ _ _ _ (by dsimp only; omega)).trans (pw_cell_below HBq.out y1)⟩) (fun hHeld2 => ?_)
            clear hK K hHeld
            have hHeld := hHeld2
            clear hHeld2
            try simp only [Act.put, List.setIfInBounds_toArray, List.set_cons_zero, List.set_cons_succ]
            refine wpAnyH_done (by kernel_rfl) ?_ _
            refine NoPanic.normal ?_
            have hz5 := HBq.out.size
            have hm : Mods [g] w5 (w5.setCell ⟨g, t, none⟩ (.int .u8 ((bv - gv) % 256))) := (Mods.refl [g] w5).setCell (p := ⟨g, t, none⟩) (.inl (by simp)) _
            have ho := (World.ownsRow.stored HO5.out t (.int .u8 ((bv - gv) % 256))).1
            rw [← nums_set8, HSET.out] at ho
            have HN5 := Lib.hid (hm.blk ((HBq.out.block _ hXw).trans HN.out) (by simp; omega))
            have HY5 := Lib.hid (hm.blk ((HBq.out.block _ hYw).trans HY.out) (by simp; omega))
            have HB5 := Lib.hid (Below.then_mods (below_then HBr.out (by omega) HBq.out) (by omega) hm (by simp; omega))
            go_wp2_with fail
            go_roundw
            case rel => exact ⟨t + 1, by omega, by go_num, ho, HN5, HY5, HB5⟩
            case measure => simp [intOf]; omega
          exact AllReadyH.nil
        exact AllReadyH.nil
      refine AllReadyH.cons (o := _) (by simp only [List.getElem?_toArray, List.getElem?_cons_succ, List.getElem?_cons_zero]; rfl) (fun K hK => ?_) ?_
      · go_simp
        refine (GU.out _ ((HRW.out.below HBr.out).below HBq.out)).mono ?_
        rintro e w5 ⟨rfl, hB⟩
        have HBq := Lib.hid (below_then HBq.out HBq.out.size hB)
        have HO5 := Lib.hid (pw_own_below HO.out HBq.out)
        obtain ⟨ct5, ft5⟩ := own_at HO5.out (t : Int) (by omega) (by omega)
        rw [Int.toNat_natCast] at ct5 ft5
        rw [foS_at f W bs n t hlt, HBV.out] at ct5
        clear hB
        refine hK.out _ _ (by first | exact ⟨x0, y0, y1⟩ | exact ⟨pw_cell_below HBq.out x0, pw_cell_below HBq.out y0, pw_cell_below HBq.out y1⟩) (fun hHeld2 => ?_)
        clear hK K hHeld
        have hHeld := hHeld2
        clear hHeld2
        try simp only [Act.put, List.setIfInBounds_toArray, List.set_cons_zero, List.set_cons_succ]
        refine wpAnyH_ready (rs := [3]) (by kernel_rfl) (by simp) ?_
        refine AllReadyH.cons (o := _) (by simp only [List.getElem?_toArray, List.getElem?_cons_succ, List.getElem?_cons_zero]; rfl) (fun K hK => ?_) ?_
        · go_simp
          refine hK.out _ _ (by first | exact ⟨x0, y0, y1⟩ | exact ⟨pw_cell_below HBq.out x0, pw_cell_below HBq.out y0, pw_cell_below HBq.out y1⟩) (fun hHeld2 => ?_)
          clear hK K hHeld
          have hHeld := hHeld2
          clear hHeld2
          try simp only [Act.put, List.setIfInBounds_toArray, List.set_cons_zero, List.set_cons_succ]
          refine wpAnyH_take (i := 15) (oi := _) (v := ?_) (by simp only [List.getElem?_toArray, List.getElem?_cons_succ, List.getElem?_cons_zero]; rfl) (by kernel_rfl) (by kernel_rfl) (by kernel_rfl) (fun _ _ _ h => h) (Or.inl ⟨by rfl, ?_⟩) hHeld ?_
          rotate_left 1
          · intro wS hSw
            try dsimp only at hSw
            obtain ⟨sa, sb, sc⟩ := hSw
            first | (go_simp; done) | (go_simp; with_reducible rfl)
          try simp only [Act.put, List.setIfInBounds_toArray, List.set_cons_zero, List.set_cons_succ]
          refine wpAnyH_take (i := 16) (oi := _) (v := ?_) (by simp only [List.getElem?_toArray, List.getElem?_cons_succ, List.getElem?_cons_zero]; rfl) (by kernel_rfl) (by kernel_rfl) (by kernel_rfl) (fun _ _ _ h => h) (Or.inl ⟨by rfl, ?_⟩) hHeld ?_
          rotate_left 1
          · intro wS hSw
            try dsimp only at hSw
            obtain ⟨sa, sb, sc⟩ := hSw
            first | (go_simp; done) | (go_simp; with_reducible rfl)
          try simp only [Act.put, List.setIfInBounds_toArray, List.set_cons_zero, List.set_cons_succ]
          refine wpAnyH_ready (rs := [17]) (by kernel_rfl) (by simp) ?_
          refine AllReadyH.cons (o := _) (by simp only [List.getElem?_toArray, List.getElem?_cons_succ, List.getElem?_cons_zero]; rfl) (fun K hK => ?_) ?_
          · go_simp
            refine hK.out _ _ (⟨(World.cell?_setCell_far _ _ _ _ (by dsimp only; omega)).trans (pw_cell_below HBq.out x0), (World.cell?_setCell_far _ _ _ _ (by dsimp only; omega)).trans (pw_cell_below HBq.out y0), (World.cell?_setCell_far _ _ _ _ (by dsimp only; omega)).trans (pw_cell_below HBq.out y1)⟩) (fun hHeld2 => ?_)
            clear hK K hHeld
            have hHeld := hHeld2
            clear hHeld2
            try simp only [Act.put, List.setIfInBounds_toArray, List.set_cons_zero, List.set_cons_succ]
            refine wpAnyH_done (by kernel_rfl) ?_ _
            refine NoPanic.normal ?_
            have hz5 := HBq.out.size
            have hm : Mods [g] w5 (w5.setCell ⟨g, t, none⟩ (.int .u8 ((bv - gv) % 256))) := (Mods.refl [g] w5).setCell (p := ⟨g, t, none⟩) (.inl (by simp)) _
            have ho := (World.ownsRow.stored HO5.out t (.int .u8 ((bv - gv) % 256))).1
            rw [← nums_set8, HSET.out] at ho
            have HN5 := Lib.hid (hm.blk ((HBq.out.block _ hXw).trans HN.out) (by simp; omega))
            have HY5 := Lib.hid (hm.blk ((HBq.out.block _ hYw).trans HY.out) (by simp; omega))
            have HB5 := Lib.hid (Below.then_mods (below_then HBr.out (by omega) HBq.out) (by omega) hm (by simp; omega))
            go_wp2_with fail
            go_roundw
            case rel => exact ⟨t + 1, by omega, by go_num, ho, HN5, HY5, HB5⟩
            case measure => simp [intOf]; omega
          exact AllReadyH.nil
        exact AllReadyH.nil
      exact AllReadyH.nil
    · obtain rfl : t = n := by omega
      have hd : decide ((t : Int) < (t : Int)) = false := by simp
      go_wp2_with fail
      refine bodyPost_ret (results_two rfl _ _ _) rfl ?_
      exact ⟨HBr.out, _, _, rfl, by rw [← foS_all]; exact own_reads' HO.out⟩
theorem backA_bad (W H f : Int) (A : Option Addr) (n c : Nat) (w : World) (hb : (goodI W H n && (decide (0 ≤ f) && decide (f ≤ 3))) = false) :
    Calls Tryz.prog 7 #[.slice A n c, .int .i64 W, .int .i64 H, .int .i64 f] w fun e w' => e = .returned (.tuple #[.slice none 0 0, .bool false]) ∧ Below w.heap.size w w' := by
  have HB0 := Lib.hid (Below.refl w.heap.size w)
  cases hg : goodI W H n with
  | false =>
    have HG := Lib.hid hg
    clear hg hb
    go_enter Tryz.func7, Tryz.ntmps7
    go_wp2_with fail
    refine (goodPl_any W H A n c _).mono ?_
    rw [HG.out]
    rintro e w1 ⟨rfl, hB⟩
    have HB1 := Lib.hid (below_then HB0.out HB0.out.size hB)
    clear hB
    go_wp2_with fail
    refine bodyPost_ret (results_two rfl _ _ _) rfl ?_
    exact ⟨rfl, HB1.out⟩
  | true =>
    have HG := Lib.hid hg
    rw [hg, Bool.true_and] at hb
    have HF := Lib.hid (fun wz => filter_b f wz false hb)
    clear hg hb
    go_enter Tryz.func7, Tryz.ntmps7
    go_wp2_with fail
    refine (goodPl_any W H A n c _).mono ?_
    rw [HG.out]
    rintro e w1 ⟨rfl, hB⟩
    have HB1 := Lib.hid (below_then HB0.out HB0.out.size hB)
    clear hB
    go_wp2_with fail
    refine (HF.out _).mono ?_
    rintro e w' ⟨rfl, rfl⟩
    go_wp2_with fail
    refine bodyPost_ret (results_two rfl _ _ _) rfl ?_
    exact ⟨rfl, HB1.out⟩
set_option maxHeartbeats 4000000 in
theorem backA_good (W H f : Nat) (ad : Addr) (n c : Nat) (bs : List Int) (w : World) (HR : ReadsInt w .u8 (some ad) n bs) (hbs : ∀ v ∈ bs, 0 ≤ v ∧ v ≤ 255) (hn0 : 0 < n) (hn : n ≤ 100000) (hW : 1 ≤ W ∧ W ≤ 16384) (hg : goodI W H n = true) (hf : f ≤ 3) :
    Calls Tryz.prog 7 #[.slice (some ad) n c, .int .i64 W, .int .i64 H, .int .i64 f] w fun e w' => Below w.heap.size w w' ∧ ∃ A2 c2, e = .returned (.tuple #[.slice A2 n c2, .bool true]) ∧ ReadsInt w' .u8 A2 n (Alp.baL f W bs n) := by
  have HG := Lib.hid hg; have HBS := Lib.hid hbs; have HLN := Lib.hid HR.1
  have HRW := Lib.hid HR
  have HF := Lib.hid (fun wz => filter_b (f : Int) wz true (by rw [decide_eq_true (show (0 : Int) ≤ f by omega), decide_eq_true (show (f : Int) ≤ 3 by omega)]; rfl))
  clear HR hg hbs
  go_enter Tryz.func7, Tryz.ntmps7
  go_wp2_with fail
  refine (goodPl_any W H (some ad) n c _).mono ?_
  rw [HG.out]
  rintro e w1 ⟨rfl, hB⟩
  have hz1 : w.heap.size ≤ w1.heap.size := hB.size
  have HB1 := Lib.hid hB
  clear hB
  go_wp2_with fail
  refine (HF.out _).mono ?_
  rintro e w' ⟨rfl, rfl⟩
  go_wp2_with fail
  refine (cloneB ad n c bs w1 (HRW.out.below HB1.out) (by omega)).mono ?_
  rintro e w2 ⟨v, rfl, hO, hB⟩
  have hform : ∃ g cp, v = .slice (some ⟨g, 0, none⟩) n cp ∧ w1.heap.size ≤ g ∧ g < w2.heap.size := some_own hO hn0
  obtain ⟨g, cp, rfl, hg1, hg2⟩ := hform
  have hz2 := hB.size
  have HB2 := Lib.hid (below_then HB1.out hz1 hB)
  have HO2 := Lib.hid hO
  clear hB hO
  have HO3 := Lib.hid (own_alloc HO2.out (.cells #[.int .i64 (W : Int), .slice (some ⟨g, 0, none⟩) n cp] 42))
  have HY3 := Lib.hid (alloc_new w2 #[.int .i64 (W : Int), .slice (some ⟨g, 0, none⟩) n cp] 42)
  have HB3 := Lib.hid (HB2.out.alloc (by omega) (.cells #[.int .i64 (W : Int), .slice (some ⟨g, 0, none⟩) n cp] 42))
  go_wp2_with fail
  rw [show bs = baS f W bs n 0 from (baS_zero f W bs n HLN.out).symm] at HO3
  generalize hw3 : w2.alloc (.cells #[.int .i64 (W : Int), .slice (some ⟨g, 0, none⟩) n cp] 42) = w3 at *
  have hz3 : w3.heap.size = w2.heap.size + 1 := by rw [← hw3]; simp
  clear hw3
  generalize w2.heap.size = Y at *
  go_loopw [11, 30] (fun _ tv wr => ∃ t : Nat, t ≤ n ∧ tv = .int .i64 t ∧ Hid (wr.ownsRow w1.heap.size 5 1 (.slice (some ⟨g, 0, none⟩) n cp) n (nums .u8 (baS f W bs n t))) ∧ Hid (wr.heap[Y]? = some (.cells #[.int .i64 (W : Int), .slice (some ⟨g, 0, none⟩) n cp] 42 (0, 0))) ∧ Hid (Below w.heap.size w wr)) (fun _ tv _ => n - (intOf tv).toNat)
  case atStart => exact ⟨0, Nat.zero_le _, rfl, HO3, HY3, HB3⟩
  case round =>
    clear HO3 HY3 HB3
    obtain ⟨t, ht, rfl, HO, HY, HBr⟩ := hrel
    have y0 : wr.cell? ⟨Y, 0, none⟩ = some (.int .i64 (W : Int)) := by rw [cell_blk HY.out]; rfl
    have y1 : wr.cell? ⟨Y, 1, none⟩ = some (.slice (some ⟨g, 0, none⟩) n cp) := by rw [cell_blk HY.out]; rfl
    by_cases hlt : t < n
    · obtain ⟨ct, ft⟩ := own_at HO.out (t : Int) (by omega) (by omega)
      rw [baS_at f W bs n t hlt, Int.toNat_natCast] at ct
      rw [Int.toNat_natCast] at ft
      obtain ⟨x, hx⟩ : ∃ x, t % W = x := ⟨_, rfl⟩
      obtain ⟨y, hy⟩ : ∃ y, t / W = y := ⟨_, rfl⟩
      have hxW : x < W := by rw [← hx]; exact Nat.mod_lt _ (by omega)
      have htt : y * W + x = t := by rw [← hx, ← hy, Nat.mul_comm]; exact Nat.div_add_mod t W
      have q1 : (t : Int) % (W : Int) = (x : Int) := by rw [← hx]; norm_cast
      have q2 : (t : Int) / (W : Int) = (y : Int) := by rw [← hy]; norm_cast
      have q3 : (t : Int).tmod (W : Int) = (x : Int) := by rw [Int.tmod_eq_emod_of_nonneg (by omega)]; exact q1
      have q4 : (t : Int).tdiv (W : Int) = (y : Int) := by rw [Int.tdiv_eq_ediv_of_nonneg (by omega)]; exact q2
      have hyt : y ≤ t := by rw [← hy]; exact Nat.div_le_self _ _
      have q5 : IntKind.i64.wrap (y : Int) = (y : Int) := IntWalk.i64_in _ (by omega)
      have q6 : ¬ (W : Nat) = 0 := by omega
      have q7 : ((W : Int) == 0) = false := beq_eq_false_iff_ne.2 (by omega)
      have k1 : (0 : Int) ≤ (t : Int) := by omega
      have k2 : (t : Int) < (n : Int) := by omega
      have hset := baS_set f W bs n t hW.1 hlt
      have hgs := Alp.gs_le (f := f) (W := W) (t := t) (fun j => Alp.getD_255 (baS_lt f W bs n t HBS.out) j)
      have GU := Lib.hid (fun wz (h : ReadsInt wz .u8 (some ⟨g, 0, none⟩) n (baS f W bs n t)) => guess_any f W n cp x y t (some ⟨g, 0, none⟩) (baS f W bs n t) wz h (baS_lt f W bs n t HBS.out) hxW htt hlt (by omega) hf)
      generalize Alp.gs f W (fun j => (baS f W bs n t).getD j 0) t = gv at *
      obtain ⟨bv, hbv⟩ : ∃ bv, bs.getD t 0 = bv := ⟨_, rfl⟩
      rw [hbv] at hset ct
      have HBV := Lib.hid hbv
      clear hbv
      have HSET := Lib.hid hset
      have HBq := Lib.hid (show Below wr.heap.size wr wr.drew from below_drew (Below.refl _ wr))
      have hYw : Y < wr.heap.size := blk_lt HY.out
      have hgY : g ≠ Y := by omega
      clear hset hx hy
      go_upto_region 7 with fail
      refine wp_region_noPanic ?_
      refine wp_region_held_drew (S := fun w' => w'.cell? ⟨Y, 0, none⟩ = some (.int .i64 (W : Int)) ∧ w'.cell? ⟨Y, 1, none⟩ = some (.slice (some ⟨g, 0, none⟩) n cp)) (by kernel_rfl) ⟨y0, y1⟩ (fun hHeld => ?_)
      refine wpAnyH_take (i := 0) (oi := _) (v := ?_) (by simp only [List.getElem?_toArray, List.getElem?_cons_zero]; rfl) (by kernel_rfl) (by kernel_rfl) (by kernel_rfl) (fun _ _ _ h => h) (Or.inl ⟨by rfl, ?_⟩) hHeld ?_
      rotate_left 1
      · intro wS hSw
        try dsimp only at hSw
        obtain ⟨sa, sb⟩ := hSw
        first | (go_simp; done) | (go_simp; with_reducible rfl)
      try simp only [Act.put, List.setIfInBounds_toArray, List.set_cons_zero, List.set_cons_succ]
      refine wpAnyH_take (i := 1) (oi := _) (v := ?_) (by simp only [List.getElem?_toArray, List.getElem?_cons_succ, List.getElem?_cons_zero]; rfl) (by kernel_rfl) (by kernel_rfl) (by kernel_rfl) (fun _ _ _ h => h) (Or.inl ⟨by rfl, ?_⟩) hHeld ?_
      rotate_left 1
      · intro wS hSw
        try dsimp only at hSw
        obtain ⟨sa, sb⟩ := hSw
        first | (go_simp; done) | (go_simp; with_reducible rfl)
      try simp only [Act.put, List.setIfInBounds_toArray, List.set_cons_zero, List.set_cons_succ]
      refine wpAnyH_take (i := 2) (oi := _) (v := ?_) (by simp only [List.getElem?_toArray, List.getElem?_cons_succ, List.getElem?_cons_zero]; rfl) (by kernel_rfl) (by kernel_rfl) (by kernel_rfl) (fun _ _ _ h => h) (Or.inl ⟨by rfl, ?_⟩) hHeld ?_
      rotate_left 1
      · intro wS hSw
        try dsimp only at hSw
        obtain ⟨sa, sb⟩ := hSw
        first | (go_simp; done) | (go_simp; with_reducible rfl)
      try simp only [Act.put, List.setIfInBounds_toArray, List.set_cons_zero, List.set_cons_succ]
      refine wpAnyH_take (i := 3) (oi := _) (v := ?_) (by simp only [List.getElem?_toArray, List.getElem?_cons_succ, List.getElem?_cons_zero]; rfl) (by kernel_rfl) (by kernel_rfl) (by kernel_rfl) (fun _ _ _ h => h) (Or.inl ⟨by rfl, ?_⟩) hHeld ?_
      rotate_left 1
      · intro wS hSw
        try dsimp only at hSw
        obtain ⟨sa, sb⟩ := hSw
        first | (go_simp; done) | (go_simp; with_reducible rfl)
      try simp only [Act.put, List.setIfInBounds_toArray, List.set_cons_zero, List.set_cons_succ]
      refine wpAnyH_take (i := 5) (oi := _) (v := ?_) (by simp only [List.getElem?_toArray, List.getElem?_cons_succ, List.getElem?_cons_zero]; rfl) (by kernel_rfl) (by kernel_rfl) (by kernel_rfl) (fun _ _ _ h => h) (Or.inl ⟨by rfl, ?_⟩) hHeld ?_
      rotate_left 1
      · intro wS hSw
        try dsimp only at hSw
        obtain ⟨sa, sb⟩ := hSw
        first | (go_simp; done) | (go_simp; with_reducible rfl)
      try simp only [Act.put, List.setIfInBounds_toArray, List.set_cons_zero, List.set_cons_succ]
      refine wpAnyH_take (i := 6) (oi := _) (v := ?_) (by simp only [List.getElem?_toArray, List.getElem?_cons_succ, List.getElem?_cons_zero]; rfl) (by kernel_rfl) (by kernel_rfl) (by kernel_rfl) (fun _ _ _ h => h) (Or.inl ⟨by rfl, ?_⟩) hHeld ?_
      rotate_left 1
      · intro wS hSw
        try dsimp only at hSw
        obtain ⟨sa, sb⟩ := hSw
        first | (go_simp; done) | (go_simp; with_reducible rfl)
      try simp only [Act.put, List.setIfInBounds_toArray, List.set_cons_zero, List.set_cons_succ]
      refine wpAnyH_take (i := 7) (oi := _) (v := ?_) (by simp only [List.getElem?_toArray, List.getElem?_cons_succ, List.getElem?_cons_zero]; rfl) (by kernel_rfl) (by kernel_rfl) (by kernel_rfl) (fun _ _ _ h => h) (Or.inl ⟨by rfl, ?_⟩) hHeld ?_
      rotate_left 1
      · intro wS hSw
        try dsimp only at hSw
        obtain ⟨sa, sb⟩ := hSw
        first | (go_simp; done) | (go_simp; with_reducible rfl)
      try simp only [Act.put, List.setIfInBounds_toArray, List.set_cons_zero, List.set_cons_succ]
      refine wpAnyH_take (i := 8) (oi := _) (v := ?_) (by simp only [List.getElem?_toArray, List.getElem?_cons_succ, List.getElem?_cons_zero]; rfl) (by kernel_rfl) (by kernel_rfl) (by kernel_rfl) (fun _ _ _ h => h) (Or.inl ⟨by rfl, ?_⟩) hHeld ?_
      rotate_left 1
      · intro wS hSw
        try dsimp only at hSw
        obtain ⟨sa, sb⟩ := hSw
        first | (go_simp; done) | (go_simp; with_reducible rfl)
      try simp only [Act.put, List.setIfInBounds_toArray, List.set_cons_zero, List.set_cons_succ]
      refine wpAnyH_take (i := 9) (oi := _) (v := ?_) (by simp only [List.getElem?_toArray, List.getElem?_cons_succ, List.getElem?_cons_zero]; rfl) (by kernel_rfl) (by kernel_rfl) (by kernel_rfl) (fun _ _ _ h => h) (Or.inl ⟨by rfl, ?_⟩) hHeld ?_
      rotate_left 1
      · intro wS hSw
        try dsimp only at hSw
        obtain ⟨sa, sb⟩ := hSw
        first | (go_simp; done) | (go_simp; with_reducible rfl)
      try simp only [Act.put, List.setIfInBounds_toArray, List.set_cons_zero, List.set_cons_succ]
      refine wpAnyH_take (i := 10) (oi := _) (v := ?_) (by simp only [List.getElem?_toArray, List.getElem?_cons_succ, List.getElem?_cons_zero]; rfl) (by kernel_rfl) (by kernel_rfl) (by kernel_rfl) (fun _ _ _ h => h) (Or.inl ⟨by rfl, ?_⟩) hHeld ?_
      rotate_left 1
      · intro wS hSw
        try dsimp only at hSw
        obtain ⟨sa, sb⟩ := hSw
        first | (go_simp; done) | (go_simp; with_reducible rfl)
      try simp only [Act.put, List.setIfInBounds_toArray, List.set_cons_zero, List.set_cons_succ]
      refine wpAnyH_take (i := 11) (oi := _) (v := ?_) (by simp only [List.getElem?_toArray, List.getElem?_cons_succ, List.getElem?_cons_zero]; rfl) (by kernel_rfl) (by kernel_rfl) (by kernel_rfl) (fun _ _ _ h => h) (Or.inl ⟨by rfl, ?_⟩) hHeld ?_
      rotate_left 1
      · intro wS hSw
        try dsimp only at hSw
        obtain ⟨sa, sb⟩ := hSw
        first | (go_simp; done) | (go_simp; with_reducible rfl)
      try simp only [Act.put, List.setIfInBounds_toArray, List.set_cons_zero, List.set_cons_succ]
      refine wpAnyH_take (i := 12) (oi := _) (v := ?_) (by simp only [List.getElem?_toArray, List.getElem?_cons_succ, List.getElem?_cons_zero]; rfl) (by kernel_rfl) (by kernel_rfl) (by kernel_rfl) (fun _ _ _ h => h) (Or.inl ⟨by rfl, ?_⟩) hHeld ?_
      rotate_left 1
      · intro wS hSw
        try dsimp only at hSw
        obtain ⟨sa, sb⟩ := hSw
        first | (go_simp; done) | (go_simp; with_reducible rfl)
      try simp only [Act.put, List.setIfInBounds_toArray, List.set_cons_zero, List.set_cons_succ]
      refine wpAnyH_ready (rs := [4, 13]) (by kernel_rfl) (by simp) ?_
      refine AllReadyH.cons (o := _) (by simp only [List.getElem?_toArray, List.getElem?_cons_succ, List.getElem?_cons_zero]; rfl) (fun K hK => ?_) ?_
      · go_simp
        refine hK.out _ _ (by first | exact ⟨y0, y1⟩ | exact ⟨pw_cell_below HBq.out y0, pw_cell_below HBq.out y1⟩) (fun hHeld2 => ?_)
        clear hK K hHeld
        have hHeld := hHeld2
        clear hHeld2
        try simp only [Act.put, List.setIfInBounds_toArray, List.set_cons_zero, List.set_cons_succ]
        refine wpAnyH_ready (rs := [13]) (by kernel_rfl) (by simp) ?_
        refine AllReadyH.cons (o := _) (by simp only [List.getElem?_toArray, List.getElem?_cons_succ, List.getElem?_cons_zero]; rfl) (fun K hK => ?_) ?_
        · go_simp
          refine (GU.out _ (own_reads' (pw_own_below HO.out HBq.out))).mono ?_
          rintro e w5 ⟨rfl, hB⟩
          have HBq := Lib.hid (below_then HBq.out HBq.out.size hB)
          have HO5 := Lib.hid (pw_own_below HO.out HBq.out)
          obtain ⟨ct5, ft5⟩ := own_at HO5.out (t : Int) (by omega) (by omega)
          rw [Int.toNat_natCast] at ct5 ft5
          rw [baS_at f W bs n t hlt, HBV.out] at ct5
          clear hB
          refine hK.out _ _ (by first | exact ⟨y0, y1⟩ | exact ⟨pw_cell_below HBq.out y0, pw_cell_below HBq.out y1⟩) (fun hHeld2 => ?_)
          clear hK K hHeld
          have hHeld := hHeld2
          clear hHeld2
          try simp only [Act.put, List.setIfInBounds_toArray, List.set_cons_zero, List.set_cons_succ]
          refine wpAnyH_take (i := 14) (oi := _) (v := ?_) (by simp only [List.getElem?_toArray, List.getElem?_cons_succ, List.getElem?_cons_zero]; rfl) (by kernel_rfl) (by kernel_rfl) (by kernel_rfl) (fun _ _ _ h => h) (Or.inl ⟨by rfl, ?_⟩) hHeld ?_
          rotate_left 1
          · intro wS hSw
            try dsimp only at hSw
            obtain ⟨sa, sb⟩ := hSw
            first | (go_simp; done) | (go_simp; with_reducible rfl)
          try simp only [Act.put, List.setIfInBounds_toArray, List.set_cons_zero, List.set_cons_succ]
          refine wpAnyH_take (i := 15) (oi := _) (v := ?_) (by simp only [List.getElem?_toArray, List.getElem?_cons_succ, List.getElem?_cons_zero]; rfl) (by kernel_rfl) (by kernel_rfl) (by kernel_rfl) (fun _ _ _ h => h) (Or.inl ⟨by rfl, ?_⟩) hHeld ?_
          rotate_left 1
          · intro wS hSw
            try dsimp only at hSw
            obtain ⟨sa, sb⟩ := hSw
            first | (go_simp; done) | (go_simp; with_reducible rfl)
          try simp only [Act.put, List.setIfInBounds_toArray, List.set_cons_zero, List.set_cons_succ]
          refine wpAnyH_ready (rs := [16]) (by kernel_rfl) (by simp) ?_
          refine AllReadyH.cons (o := _) (by simp only [List.getElem?_toArray, List.getElem?_cons_succ, List.getElem?_cons_zero]; rfl) (fun K hK => ?_) ?_
          · go_simp
            refine hK.out _ _ (⟨(World.cell?_setCell_far _ _ _ _ (by dsimp only; omega)).trans (pw_cell_below HBq.out y0), (World.cell?_setCell_far _ _ _ _ (by dsimp only; omega)).trans (pw_cell_below HBq.out y1)⟩) (fun hHeld2 => ?_)
            clear hK K hHeld
            have hHeld := hHeld2
            clear hHeld2
            try simp only [Act.put, List.setIfInBounds_toArray, List.set_cons_zero, List.set_cons_succ]
            refine wpAnyH_done (by kernel_rfl) ?_ _
            refine NoPanic.normal ?_
            have hz5 := HBq.out.size
            have hm : Mods [g] w5 (w5.setCell ⟨g, t, none⟩ (.int .u8 ((bv + gv) % 256))) := (Mods.refl [g] w5).setCell (p := ⟨g, t, none⟩) (.inl (by simp)) _
            have ho := (World.ownsRow.stored HO5.out t (.int .u8 ((bv + gv) % 256))).1
            rw [← nums_set8, HSET.out] at ho
            skip
            have HY5 := Lib.hid (hm.blk ((HBq.out.block _ hYw).trans HY.out) (by simp; omega))
            have HB5 := Lib.hid (Below.then_mods (below_then HBr.out (by omega) HBq.out) (by omega) hm (by simp; omega))
            go_wp2_with fail
            go_roundw
            case rel => exact ⟨t + 1, by omega, by go_num, ho, HY5, HB5⟩
            case measure => simp [intOf]; omega
          exact AllReadyH.nil
        exact AllReadyH.nil
      refine AllReadyH.cons (o := _) (by simp only [List.getElem?_toArray, List.getElem?_cons_succ, List.getElem?_cons_zero]; rfl) (fun K hK => ?_) ?_
      · go_simp
        refine (GU.out _ (own_reads' (pw_own_below HO.out HBq.out))).mono ?_
        rintro e w5 ⟨rfl, hB⟩
        have HBq := Lib.hid (below_then HBq.out HBq.out.size hB)
        have HO5 := Lib.hid (pw_own_below HO.out HBq.out)
        obtain ⟨ct5, ft5⟩ := own_at HO5.out (t : Int) (by omega) (by omega)
        rw [Int.toNat_natCast] at ct5 ft5
        rw [baS_at f W bs n t hlt, HBV.out] at ct5
        clear hB
        refine hK.out _ _ (by first | exact ⟨y0, y1⟩ | exact ⟨pw_cell_below HBq.out y0, pw_cell_below HBq.out y1⟩) (fun hHeld2 => ?_)
        clear hK K hHeld
        have hHeld := hHeld2
        clear hHeld2
        try simp only [Act.put, List.setIfInBounds_toArray, List.set_cons_zero, List.set_cons_succ]
        refine wpAnyH_ready (rs := [4]) (by kernel_rfl) (by simp) ?_
        refine AllReadyH.cons (o := _) (by simp only [List.getElem?_toArray, List.getElem?_cons_succ, List.getElem?_cons_zero]; rfl) (fun K hK => ?_) ?_
        · go_simp
          refine hK.out _ _ (by first | exact ⟨y0, y1⟩ | exact ⟨pw_cell_below HBq.out y0, pw_cell_below HBq.out y1⟩) (fun hHeld2 => ?_)
          clear hK K hHeld
          have hHeld := hHeld2
          clear hHeld2
          try simp only [Act.put, List.setIfInBounds_toArray, List.set_cons_zero, List.set_cons_succ]
          refine wpAnyH_take (i := 14) (oi := _) (v := ?_) (by simp only [List.getElem?_toArray, List.getElem?_cons_succ, List.getElem?_cons_zero]; rfl) (by kernel_rfl) (by kernel_rfl) (by kernel_rfl) (fun _ _ _ h => h) (Or.inl ⟨by rfl, ?_⟩) hHeld ?_
          rotate_left 1
          · intro wS hSw
            try dsimp only at hSw
            obtain ⟨sa, sb⟩ := hSw
            first | (go_simp; done) | (go_simp; with_reducible rfl)
          try simp only [Act.put, List.setIfInBounds_toArray, List.set_cons_zero, List.set_cons_succ]
          refine wpAnyH_take (i := 15) (oi := _) (v := ?_) (by simp only [List.getElem?_toArray, List.getElem?_cons_succ, List.getElem?_cons_zero]; rfl) (by kernel_rfl) (by kernel_rfl) (by kernel_rfl) (fun _ _ _ h => h) (Or.inl ⟨by rfl, ?_⟩) hHeld ?_
          rotate_left 1
          · intro wS hSw
            try dsimp only at hSw
            obtain ⟨sa, sb⟩ := hSw
            first | (go_simp; done) | (go_simp; with_reducible rfl)
          try simp only [Act.put, List.setIfInBounds_toArray, List.set_cons_zero, List.set_cons_succ]
          refine wpAnyH_ready (rs := [16]) (by kernel_rfl) (by simp) ?_
          refine AllReadyH.cons (o := _) (by simp only [List.getElem?_toArray, List.getElem?_cons_succ, List.getElem?_cons_zero]; rfl) (fun K hK => ?_) ?_
          · go_simp
            refine hK.out _ _ (⟨(World.cell?_setCell_far _ _ _ _ (by dsimp only; omega)).trans (pw_cell_below HBq.out y0), (World.cell?_setCell_far _ _ _ _ (by dsimp only; omega)).trans (pw_cell_below HBq.out y1)⟩) (fun hHeld2 => ?_)
            clear hK K hHeld
            have hHeld := hHeld2
            clear hHeld2
            try simp only [Act.put, List.setIfInBounds_toArray, List.set_cons_zero, List.set_cons_succ]
            refine wpAnyH_done (by kernel_rfl) ?_ _
            refine NoPanic.normal ?_
            have hz5 := HBq.out.size
            have hm : Mods [g] w5 (w5.setCell ⟨g, t, none⟩ (.int .u8 ((bv + gv) % 256))) := (Mods.refl [g] w5).setCell (p := ⟨g, t, none⟩) (.inl (by simp)) _
            have ho := (World.ownsRow.stored HO5.out t (.int .u8 ((bv + gv) % 256))).1
            rw [← nums_set8, HSET.out] at ho
            skip
            have HY5 := Lib.hid (hm.blk ((HBq.out.block _ hYw).trans HY.out) (by simp; omega))
            have HB5 := Lib.hid (Below.then_mods (below_then HBr.out (by omega) HBq.out) (by omega) hm (by simp; omega))
            go_wp2_with fail
            go_roundw
            case rel => exact ⟨t + 1, by omega, by go_num, ho, HY5, HB5⟩
            case measure => simp [intOf]; omega
          exact AllReadyH.nil
        exact AllReadyH.nil
      exact AllReadyH.nil
    · obtain rfl : t = n := by omega
      have hd : decide ((t : Int) < (t : Int)) = false := by simp
      go_wp2_with fail
      refine bodyPost_ret (results_two rfl _ _ _) rfl ?_
      exact ⟨HBr.out, _, _, rfl, by rw [← baS_all]; exact own_reads' HO.out⟩
end Go.Proofs.YtodpognmkbjlmaaGreatDoor
