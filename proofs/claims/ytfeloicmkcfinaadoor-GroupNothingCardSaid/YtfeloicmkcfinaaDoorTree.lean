/- What package tree does: a new one. -/
import Derived.Test.YtfeloicmkcfinaaDoorTreeP
import Derived.Test.YtfeloicmkcfinaaDoorCode3
import Derived.Test.YtfeloicmkcfinaaDoorBitin
namespace Go.Proofs.YtfeloicmkcfinaaDoor
open Go.RowKit
open Go.Proofs.YtfeloicmkcfinaaDoorW.PrintWords
open Srt

def treeCells (lv cv : Value) (cs : List Int) (sv : Value) (one : Bool) : Array Value := (lv :: cv :: (cs.map (fun x => Value.int .i64 x) ++ [sv, .bool one])).toArray
def cntK (ls : List Int) (k : Nat) : List Int := (List.range 16).map (fun (m : Nat) => ((eqUp ls (m : Int) k : Nat) : Int))
theorem cntK_length (ls : List Int) (k : Nat) : (cntK ls k).length = 16 := by simp [cntK]
theorem cntK_get (ls : List Int) (k m : Nat) (h : m < 16) : (cntK ls k)[m]? = some ((eqUp ls m k : Nat) : Int) := by
  simp [cntK, List.getElem?_map, List.getElem?_range h]
theorem cntK_next (ls : List Int) (k m : Nat) (h : ln ls k = m) (hm : m < 16) : (cntK ls k).set m ((eqUp ls m k : Nat) + 1 : Int) = cntK ls (k + 1) := by
  apply List.ext_getElem?
  intro t
  by_cases ht : t < 16
  · rw [cntK_get _ _ _ ht, List.getElem?_set, cntK_get _ _ _ ht, cntK_length]
    by_cases e : m = t
    · subst e
      rw [if_pos rfl, if_pos hm, eqUp_hit ls m k h]; simp
    · rw [if_neg e, eqUp_miss ls t k (by rw [h]; omega)]
  · rw [List.getElem?_eq_none (by simp [cntK]; omega), List.getElem?_eq_none (by simp [cntK]; omega)]
theorem cntK_zero (ls : List Int) : cntK ls 0 = List.replicate 16 0 := by
  apply List.ext_getElem
  · simp [cntK]
  · intro i h1 h2; rw [List.getElem_replicate]; simp [cntK, eqUp, cnt]
theorem treeCells_get (lv cv : Value) (cs : List Int) (sv : Value) (one : Bool) (m : Nat) (x : Int) (h : cs[m]? = some x) : (treeCells lv cv cs sv one)[2 + m]? = some (.int .i64 x) := by
  have hm : m < cs.length := (List.getElem?_eq_some_iff.1 h).1
  unfold treeCells
  rw [List.getElem?_toArray, Nat.add_comm, List.getElem?_cons_succ, List.getElem?_cons_succ, List.getElem?_append_left (by simpa using hm), List.getElem?_map, h]; rfl
theorem treeCells_set (lv cv : Value) (cs : List Int) (sv : Value) (one : Bool) (m : Nat) (x : Int) (h : m < cs.length) : (treeCells lv cv cs sv one).setIfInBounds (2 + m) (.int .i64 x) = treeCells lv cv (cs.set m x) sv one := by
  unfold treeCells
  apply Array.ext'
  rw [Array.toList_setIfInBounds, Nat.add_comm]
  simp only [List.set_cons_succ]
  rw [List.set_append_left _ _ (by simpa using h), List.map_set]

theorem treeCells_one (lv cv : Value) (cs : List Int) (sv : Value) (one : Bool) (h : cs.length = 16) : (treeCells lv cv cs sv one)[19]? = some (.bool one) := by
  unfold treeCells
  rw [List.getElem?_toArray, List.getElem?_cons_succ, List.getElem?_cons_succ, List.getElem?_append_right (by simp [h]), List.length_map, h]; rfl
theorem treeCells_sorted (lv cv : Value) (cs : List Int) (sv : Value) (one : Bool) (h : cs.length = 16) : (treeCells lv cv cs sv one)[18]? = some sv := by
  unfold treeCells
  rw [List.getElem?_toArray, List.getElem?_cons_succ, List.getElem?_cons_succ, List.getElem?_append_right (by simp [h]), List.length_map, h]; rfl
theorem treeCells_setOne (lv cv : Value) (cs : List Int) (sv : Value) (one y : Bool) (h : cs.length = 16) : (treeCells lv cv cs sv one).setIfInBounds 19 (.bool y) = treeCells lv cv cs sv y := by
  unfold treeCells
  apply Array.ext'
  rw [Array.toList_setIfInBounds]
  simp only [List.set_cons_succ]
  rw [List.set_append_right _ _ (by simp [h]), List.length_map, h]; rfl
theorem own_some' {w : World} {base n size : Nat} {e : TypeId} {v : Value} {xs : List Value} (h : w.ownsRow base e size v n xs) (hn : 0 < n) : ∃ g c, v = .slice (some ⟨g, 0, none⟩) n c ∧ base ≤ g := by
  rcases h.2 with ⟨_, h0⟩ | ⟨g, cap, cur, rfl, hb, _⟩
  · omega
  · exact ⟨g, cap, rfl, hb⟩

def IsTree (w : World) (B hi : Nat) (ls os : List Int) : Prop :=
  B < hi ∧ hi ≤ w.heap.size ∧ ls.length ≤ 17592186044416 ∧ checkS ls = 0 ∧ InOrder ls os ∧ ∃ Al cl Ac cc Ao co,
    w.heap[B]? = some (.cells (treeCells (.slice Al ls.length cl) (.slice Ac ls.length cc) ((cntK ls ls.length).set 0 0) (.slice Ao os.length co) (oneS ls).2) 80 (0, 0)) ∧
    ReadsInt w .u8 Al ls.length ls ∧ ReadsInt w .u32 Ac ls.length (codesS ls) ∧ ReadsInt w .i64 Ao os.length os ∧
    (∀ ad, Al = some ad → ad.block < hi) ∧ (∀ ad, Ac = some ad → ad.block < hi) ∧ (∀ ad, Ao = some ad → ad.block < hi)

/-- What tree.New answers. -/
def NewPost (ls : List Int) (w : World) (e : Ending) (w' : World) : Prop :=
  Below w.heap.size w w' ∧ ∃ B os, e = .returned (.tuple #[.pointer (some ⟨B, 0, none⟩), .int .i64 0]) ∧ w.heap.size ≤ B ∧ IsTree w' B w'.heap.size ls os

set_option maxRecDepth 8000 in
set_option maxHeartbeats 2000000 in
theorem tree_new (A : Option Addr) (n c : Nat) (ls : List Int) (w : World) (HR : ReadsInt w .i64 A n ls) (hn : n ≤ 17592186044416) (hc : n ≤ c) (hz : checkS ls = 0) :
    Calls Tryd.prog 17 #[.slice A n c] w (NewPost ls w) := by
  have HRR := Lib.hid HR; have HL := Lib.hid HR.1; have HZ := Lib.hid hz
  have hzb : (checkS ls != 0) = false := by simp [hz]
  clear HR hz
  go_enter Tryd.func17, Tryd.ntmps17
  go_wp2_with (go_at_call 26; refine (check_any A n c ls w HRR.out hn).mono ?_; rintro e w' ⟨rfl, rfl⟩)
  refine (codes_any A n c ls w HRR.out hn).mono ?_
  rintro e w1 ⟨hB1, v1, rfl, _, h1⟩
  have hO1 := h1 HZ.out
  rw [HL.out] at hO1
  obtain ⟨A1, c1, rfl, hR1⟩ := own_reads hO1
  have HO1 := Lib.hid hO1; have HB1 := Lib.hid hB1; have HR1 := Lib.hid hR1
  clear h1 hB1 hO1 hR1
  go_wp2_with fail
  refine (order_any A n c ls w1 (HRR.out.below HB1.out) hn (fun x hx => by
    obtain ⟨i, hi, rfl⟩ := List.getElem_of_mem hx
    have := (complete HZ.out).1 i
    rw [ln_get hi] at this; omega)).mono ?_
  rintro e w2 ⟨hB2, v2, os, rfl, hin, hO2⟩
  obtain ⟨A2, c2, rfl, hR2⟩ := own_reads hO2
  have HIN := Lib.hid hin; have HR2 := Lib.hid hR2; have HB2 := Lib.hid (below_then HB1.out HB1.out.size hB2); have HRc := Lib.hid (HR1.out.below hB2)
  have HA1 := Lib.hid (show ∀ ad, A1 = some ad → ad.block < w2.heap.size from fun ad e => by
    have := own_lt HO1.out ad.block (by rw [e]; rfl)
    have := hB2.size; omega)
  have HA2 := Lib.hid (show ∀ ad, A2 = some ad → ad.block < w2.heap.size from fun ad e => own_lt hO2 ad.block (by rw [e]; rfl))
  clear hin hR2 hB2 hO2
  go_wp2_with fail
  have hblk : (w2.alloc (.cells (treeCells (.slice none 0 0) (.slice A1 n c1) (cntK ls 0) (.slice A2 os.length c2) false) 80)).heap[w2.heap.size]? = some (.cells (treeCells (.slice none 0 0) (.slice A1 n c1) (cntK ls 0) (.slice A2 os.length c2) false) 80 (0, 0)) := blk_alloc _
  have hb0 : Below w2.heap.size w2 (w2.alloc (.cells (treeCells (.slice none 0 0) (.slice A1 n c1) (cntK ls 0) (.slice A2 os.length c2) false) 80)) := (Below.refl _ _).alloc (Nat.le_refl _) _
  rw [show #[Value.slice none 0 0, Value.slice A1 n c1, .int .i64 0, .int .i64 0, .int .i64 0, .int .i64 0, .int .i64 0, .int .i64 0, .int .i64 0, .int .i64 0, .int .i64 0, .int .i64 0, .int .i64 0, .int .i64 0, .int .i64 0, .int .i64 0, .int .i64 0, .int .i64 0, Value.slice A2 os.length c2, .bool false] = treeCells (.slice none 0 0) (.slice A1 n c1) (cntK ls 0) (.slice A2 os.length c2) false from by rw [cntK_zero]; rfl]
  have hsz : (w2.alloc (.cells (treeCells (.slice none 0 0) (.slice A1 n c1) (cntK ls 0) (.slice A2 os.length c2) false) 80)).heap.size = w2.heap.size + 1 := by simp
  generalize hw3 : w2.alloc (.cells (treeCells (.slice none 0 0) (.slice A1 n c1) (cntK ls 0) (.slice A2 os.length c2) false) 80) = w3 at *
  clear hw3
  generalize hb : w2.heap.size = b at *
  have HBK := Lib.hid hblk; have HB0 := Lib.hid hb0; have HSZ := Lib.hid hsz; have HBE := Lib.hid hb
  clear hblk hb0 hsz hb
  generalize treeCells (.slice none 0 0) (.slice A1 n c1) (cntK ls 0) (.slice A2 os.length c2) false = agg0
  go_loopw [7, 21] (fun x i wr => ∃ k : Nat, k ≤ n ∧ i = .int .i64 k ∧ Hid (∃ lv, wr.heap[b]? = some (.cells (treeCells lv (.slice A1 n c1) (cntK ls k) (.slice A2 os.length c2) false) 80 (0, 0)) ∧ wr.ownsRow (b + 1) 5 1 lv k (nums .u8 (ls.take k)) ∧ Below b w2 wr)) (fun _ i _ => n - (intOf i).toNat)
  case atStart => exact ⟨0, by omega, rfl, _, HBK.out, own_nil _ _ _ _, HB0.out⟩
  case round =>
    obtain ⟨k, hk, rfl, HX⟩ := hrel
    obtain ⟨lv, hbk, hO, hB⟩ := HX.out
    clear HX
    by_cases hlt : k < n
    · have hBw : Below w.heap.size w wr := below_then HB2.out HB2.out.size (by rw [HBE.out]; exact hB)
      obtain ⟨ad, hA, hcell0⟩ := ReadsInt.at_ (HRR.out.below hBw) (k : Int) (by omega) (by omega)
      rw [Int.toNat_natCast, rd_ln] at hcell0
      subst hA
      obtain ⟨hl0, hl1⟩ := (complete HZ.out).1 k
      have hlv : wr.cell? ⟨b, 0, none⟩ = some lv := cell_blk hbk 0
      have hfv := free_blk hbk 0
      have hwlt := blk_lt hbk
      have HBKr := Lib.hid hbk; have HO := Lib.hid hO; have HB := Lib.hid hB
      clear hbk hO hB hBw
      have hlk : (ls.take k).length = k := by have := HL.out; rw [List.length_take]; omega
      have HOB : Hid (wr.ownsRow (b + 1) 5 1 lv (ls.take k).length (nums .u8 (ls.take k))) := by rw [hlk]; exact HO
      go_wp2_with (at_builtin; refine print_append_num (b + 1) rfl _ _ 23 5 .u8 1 rfl Tryd.underlying23 info_u8 (by decide) _ (ls.take k) (ln ls k) rfl rfl (by exact HOB.out) (Below.refl (b + 1) wr) (by omega) (by rw [hlk]; omega) ?_)
      intro v1 w4 hown hB4 _ _
      obtain ⟨g1, c4, hv1, hg1⟩ := own_some' hown (by omega)
      have hbk4 := (hB4.block b (by omega)).trans HBKr.out
      have hfv4 := free_blk hbk4 0
      have hlv4 : w4.cell? ⟨b, 0, none⟩ = some lv := cell_blk hbk4 0
      have hb5 := blk_set hbk4 0 v1
      rw [show (treeCells lv (.slice A1 n c1) (cntK ls k) (.slice A2 os.length c2) false).setIfInBounds 0 v1 = treeCells v1 (.slice A1 n c1) (cntK ls k) (.slice A2 os.length c2) false from rfl] at hb5
      have ho5 : (w4.setCell ⟨b, 0, none⟩ v1).ownsRow (b + 1) 5 1 v1 (k + 1) (nums .u8 (ls.take (k + 1))) := by
        have e : ls.take (k + 1) = ls.take k ++ [ln ls k] := by rw [List.take_add_one, List.getElem?_eq_getElem (by have := HL.out; omega), ln_get (by have := HL.out; omega)]; rfl
        rw [e]
        refine own_setCell hown (fun h => ?_) v1
        have := own_base hown b h.symm
        omega
      have hB5 : Below b w2 (w4.setCell ⟨b, 0, none⟩ v1) := (HB.out.trans (hB4.mono (by omega))).setCell (p := ⟨b, 0, none⟩) (Nat.le_refl b) v1
      have HB5 := Lib.hid hB5; have HO5 := Lib.hid ho5; have HBK5 := Lib.hid hb5
      clear hown hB4 hbk4 hB5 ho5 hb5 hcell0 hg1
      subst hv1
      go_wp2_with fail
      generalize w4.setCell ⟨b, 0, none⟩ (.slice (some ⟨g1, 0, none⟩) (k + 1) c4) = w5 at *
      obtain ⟨m, hm⟩ := Int.eq_ofNat_of_zero_le hl0
      have HMK := Lib.hid hm
      rw [hm]
      have hm15 : m < 16 := by omega
      have hcm : w5.cell? ⟨b, 2 + m, none⟩ = some (.int .i64 (eqUp ls m k : Nat)) := by rw [cell_blk HBK5.out]; exact treeCells_get _ _ _ _ _ m _ (cntK_get ls k m hm15)
      have hfm : w5.frozen? ⟨b, 2 + m, none⟩ = false := free_blk HBK5.out _
      have hle := eqUp_le ls m k
      generalize hq : eqUp ls m k = q at *
      have HQ := Lib.hid hq
      clear hm hl0 hl1 hq
      have hsum : IntKind.i64.wrap ((q : Int) + 1) = ((q + 1 : Nat) : Int) := by rw [IntWalk.i64_in _ (by omega)]; omega
      have hmi : (m : Int) < 16 := by omega
      have hmt : ((m : Int)).toNat = m := by omega
      go_wp2_with fail
      go_region
      have hbk6 := blk_set HBK5.out (2 + m) (.int .i64 ((q : Int) + 1))
      rw [treeCells_set _ _ _ _ _ m _ (by rw [cntK_length]; exact hm15)] at hbk6
      have e6 : (cntK ls k).set m ((q : Int) + 1) = cntK ls (k + 1) := by rw [← HQ.out]; exact cntK_next ls k m HMK.out hm15
      rw [e6] at hbk6
      have ho6 : (w5.setCell ⟨b, 2 + m, none⟩ (.int .i64 ((q : Int) + 1))).ownsRow (b + 1) 5 1 (.slice (some ⟨g1, 0, none⟩) (k + 1) c4) (k + 1) (nums .u8 (ls.take (k + 1))) := by
        refine own_setCell HO5.out (fun h => ?_) _
        have := own_base HO5.out b h.symm
        omega
      have hB6 := HB5.out.setCell (p := ⟨b, 2 + m, none⟩) (Nat.le_refl b) (.int .i64 ((q : Int) + 1))
      have HBK6 := Lib.hid hbk6; have HO6 := Lib.hid ho6; have HB6 := Lib.hid hB6
      clear hbk6 ho6 hB6 e6
      generalize w5.setCell ⟨b, 2 + m, none⟩ (.int .i64 ((q : Int) + 1)) = w6 at *
      go_wp2_with fail
      go_roundw
      case rel => exact ⟨k + 1, by omega, by go_num, _, HBK6.out, HO6.out.drew, below_drew HB6.out⟩
      case measure => simp [intOf]; omega
    · obtain rfl : k = n := by omega
      have hwlt := blk_lt hbk
      obtain ⟨Al, cl, rfl, hRl⟩ := own_reads hO
      have hfv := free_blk hbk 2
      have hcv : wr.cell? ⟨b, 2, none⟩ = some (.int .i64 (eqUp ls 0 k : Nat)) := by rw [cell_blk hbk]; exact treeCells_get _ _ _ _ _ 0 _ (cntK_get ls k 0 (by omega))
      have hb1 := blk_set hbk 2 (.int .i64 0)
      rw [treeCells_set _ _ _ _ _ 0 _ (by rw [cntK_length]; omega)] at hb1
      have ho1 : (wr.setCell ⟨b, 2, none⟩ (.int .i64 0)).ownsRow (b + 1) 5 1 (.slice Al k cl) k (nums .u8 (ls.take k)) := by
        refine own_setCell hO (fun h => ?_) _
        have := own_base hO b h.symm
        omega
      have hB1 := hB.setCell (p := ⟨b, 2, none⟩) (Nat.le_refl b) (.int .i64 0)
      have HBK1 := Lib.hid hb1; have HO1' := Lib.hid ho1; have HB1' := Lib.hid hB1
      clear hb1 ho1 hB1 hbk hO hB hRl
      obtain ⟨x, HX⟩ : ∃ v, Hid ((oneS ls).1 = v) := ⟨_, rfl⟩
      obtain ⟨y, HY⟩ : ∃ v, Hid ((oneS ls).2 = v) := ⟨_, rfl⟩
      go_wp2_with fail
      have hBw : Below w.heap.size w (wr.setCell ⟨b, 2, none⟩ (.int .i64 0)) := below_then HB2.out HB2.out.size (by rw [HBE.out]; exact HB1'.out)
      refine (one_any A k c ls _ (HRR.out.below hBw) hn hc).mono ?_
      rintro e w' ⟨rfl, rfl⟩
      rw [HX.out, HY.out]
      have hlen16 : ((cntK ls k).set 0 0).length = 16 := by rw [List.length_set, cntK_length]
      have hsz0 : wr.heap.size = (wr.setCell ⟨b, 2, none⟩ (.int .i64 0)).heap.size := by simp
      rw [hsz0] at hwlt
      clear hcv hfv hsz0
      generalize wr.setCell ⟨b, 2, none⟩ (.int .i64 0) = w4 at *
      have hfv := free_blk HBK1.out 19
      have hcv : w4.cell? ⟨b, 19, none⟩ = some (.bool false) := by rw [cell_blk HBK1.out]; exact treeCells_one _ _ _ _ _ hlen16
      have hb7 := blk_set HBK1.out 19 (.bool y)
      rw [treeCells_setOne _ _ _ _ _ _ hlen16] at hb7
      have ho7 : (w4.setCell ⟨b, 19, none⟩ (.bool y)).ownsRow (b + 1) 5 1 (.slice Al k cl) k (nums .u8 (ls.take k)) := by
        refine own_setCell HO1'.out (fun h => ?_) _
        have := own_base HO1'.out b h.symm
        omega
      have hB7 := HB1'.out.setCell (p := ⟨b, 19, none⟩) (Nat.le_refl b) (.bool y)
      have hBw7 : Below w.heap.size w (w4.setCell ⟨b, 19, none⟩ (.bool y)) := below_then HB2.out HB2.out.size (by rw [HBE.out]; exact hB7)
      have hfin : IsTree (w4.setCell ⟨b, 19, none⟩ (.bool y)) b (w4.setCell ⟨b, 19, none⟩ (.bool y)).heap.size ls os := by
        have hs7 : (w4.setCell ⟨b, 19, none⟩ (.bool y)).heap.size = w4.heap.size := by simp
        have hL := HL.out
        refine ⟨by omega, Nat.le_refl _, by omega, HZ.out, HIN.out, Al, cl, A1, c1, A2, c2, ?_, ?_, ?_, ?_, ?_, ?_, ?_⟩
        · rw [hL, HY.out]; exact hb7
        · have := own_reads' ho7
          rw [List.take_of_length_le (by omega)] at this
          rw [hL]; exact this
        · rw [hL]; exact HRc.out.below (by rw [HBE.out]; exact hB7)
        · exact HR2.out.below (by rw [HBE.out]; exact hB7)
        · exact fun ad e => own_lt ho7 ad.block (by rw [e]; rfl)
        · intro ad e; have := HA1.out ad e; omega
        · intro ad e; have := HA2.out ad e; omega
      have HFIN := Lib.hid hfin; have HBW := Lib.hid hBw7
      have hbw := HB2.out.size
      have HSB := Lib.hid (show w.heap.size ≤ b from by rw [← HBE.out]; exact hbw)
      clear hfin hBw hBw7 hB7 ho7 hb7
      go_wp2_with fail
      go_ret2
      exact ⟨HBW.out, b, os, rfl, HSB.out, HFIN.out⟩

set_option maxHeartbeats 1000000 in
theorem tree_bad (A : Option Addr) (n c : Nat) (ls : List Int) (w : World) (HR : ReadsInt w .i64 A n ls) (hn : n ≤ 17592186044416) (hz : checkS ls ≠ 0) :
    Calls Tryd.prog 17 #[.slice A n c] w fun e w' => e = .returned (.tuple #[.pointer none, .int .i64 (checkS ls)]) ∧ w = w' := by
  have HRR := Lib.hid HR
  have hzb : (checkS ls != 0) = true := by simp [hz]
  clear HR hz
  go_enter Tryd.func17, Tryd.ntmps17
  go_wp2_with (go_at_call 26; refine (check_any A n c ls w HRR.out hn).mono ?_; rintro e w' ⟨rfl, rfl⟩)
  go_ret2
  exact ⟨rfl, rfl⟩
end Go.Proofs.YtfeloicmkcfinaaDoor
