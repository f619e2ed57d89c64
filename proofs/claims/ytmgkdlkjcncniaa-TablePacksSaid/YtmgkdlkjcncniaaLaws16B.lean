/- The law TableBeyond. -/
import Derived.Test.YtmgkdlkjcncniaaTab8
import Derived.Test.YtmgkdlkjcncniaaTab2
import Derived.Deep.AppendLies
import Derived.Deep.RegionLaw
namespace Go.Proofs.Ytmgkdlkjcncniaa
open Go.RowKit
open Go.Proofs.YtmgkdlkjcncniaaW.PrintWords

theorem own_apart {w : World} {X s N : Nat} {e : TypeId} {v : Value} {xs : List Value} (h : w.ownsRow (X + 1) e s v N xs) : some X ≠ v.ownBlock := by
  rcases h.2 with ⟨rfl, _⟩ | ⟨g, cap, cur, rfl, hg, _⟩
  · simp [Value.ownBlock]
  · simp [Value.ownBlock]; omega

theorem own_rows {w : World} {X s N : Nat} {e : TypeId} {v : Value} {xs : List Value} (h : w.ownsRow (X + 1) e s v N xs) : ∀ r, v.ownBlock = some r → X + 1 ≤ r := by
  rcases h.2 with ⟨rfl, _⟩ | ⟨g, cap, cur, rfl, hg, _⟩
  · intro r h; simp [Value.ownBlock] at h
  · intro r h; simp [Value.ownBlock] at h; omega
theorem unp_plain {n t : Nat} {gs ls : List Int} (ht : t < n) (hl : gs.length = n) (h0 : 0 ≤ gs.getD t 0) (h1 : gs.getD t 0 ≤ 255) :
    unpPix n n 0 (gs.map (· * 256)) ls t = if gs.getD t 0 < ls.length then ls.getD (gs.getD t 0).toNat 0 else 0 := by
  unfold unpPix unpN
  have e1 : t / n * n + t % n / 2 ^ 0 = t := by rw [Nat.div_eq_of_lt ht, Nat.mod_eq_of_lt ht]; simp
  have e2 : (gs.map (· * 256)).getD t 0 = gs.getD t 0 * 256 := by
    rw [List.getD_eq_getElem?_getD, List.getElem?_map, List.getD_eq_getElem?_getD, List.getElem?_eq_getElem (by omega)]; rfl
  rw [e1, e2]
  generalize gs.getD t 0 = x at *
  have e3 : x * 256 / 256 % 256 = x := by omega
  have e4 : x / 2 ^ (t % n % 2 ^ 0 * (8 / 2 ^ 0)) % 2 ^ (8 / 2 ^ 0) = x := by simp [Nat.mod_one]; omega
  rw [e3, e4]

set_option maxRecDepth 100000 in
set_option maxHeartbeats 4000000 in
theorem law_TableBeyond (A B : Option Addr) (n c m d : Nat) (gs ls : List Int) (w : World) (HR : ReadsInt w .u8 A n gs) (HS : ReadsInt w .u32 B m ls) (hgs : ∀ x ∈ gs, 0 ≤ x ∧ x ≤ 255) (hls : ∀ x ∈ ls, 0 ≤ x ∧ x < 4294967296) :
    Calls Try.prog 6 #[.slice A n c, .slice B m d] w fun e w' => e = .returned (.bool true) ∧ Below w.heap.size w w' := by
  have HRR := Lib.hid HR; have HSS := Lib.hid HS; have HGS := Lib.hid hgs; have HLS := Lib.hid hls
  clear HR HS hgs hls
  by_cases hok : 1 ≤ n ∧ n ≤ 300 ∧ 17 ≤ m ∧ m ≤ 256
  · obtain ⟨h1, h2, h3, h4⟩ := hok
    have z1 : ((n : Int) == 0) = false := by simp; omega
    have z2 : decide ((300 : Int) < (n : Int)) = false := by simp; omega
    have z3 : decide ((m : Int) < 17) = false := by simp; omega
    have z4 : decide ((256 : Int) < (m : Int)) = false := by simp; omega
    have hbx := alloc_new w #[.int .i64 n, .int .i64 1, .slice none 0 0] 24
    have hb1 := (Below.refl _ w).alloc (Nat.le_refl _) (.cells #[.int .i64 n, .int .i64 1, .slice none 0 0] 24)
    obtain ⟨X, hX⟩ : ∃ X, w.heap.size = X := ⟨_, rfl⟩
    have HX := Lib.hid hX
    have HBX := Lib.hid hbx; have HB1 := Lib.hid hb1
    clear hbx hb1 hX
    go_enter Try.func6, Try.ntmps6
    go_wp2_with fail
    rw [HX.out]
    go_loopw [6] (fun vi wr => ∃ (k : Nat) (v : Value), k ≤ n ∧ vi = .int .i64 k ∧ Hid (wr.heap[X]? = some (.cells #[.int .i64 n, .int .i64 1, v] 24 (0, 0))) ∧ Hid (wr.ownsRow (X + 1) 31 1 v k (nums .u32 ((gs.take k).map (· * 256)))) ∧ X + 1 ≤ wr.heap.size ∧ Hid (Below X w wr)) (fun vi _ => n - (intOf vi).toNat)
    case atStart =>
      refine ⟨0, _, Nat.zero_le _, rfl, ?_, own_nil _ _ _ _, ?_, ?_⟩
      · have h := HBX.out; rw [HX.out] at h; exact h
      · have := HX.out; simp; omega
      · have h := HB1.out; rw [HX.out] at h; exact h
    case round =>
      clear HBX HB1
      obtain ⟨k, v, hk, rfl, HC, HO, hsz, HB⟩ := hrel
      by_cases hlt : k < n
      · obtain ⟨ad, hA, hcell⟩ := ReadsInt.at_ (HRR.out.below (by have := HX.out; rw [this]; exact HB.out)) (k : Int) (by omega) (by omega)
        subst hA
        rw [Int.toNat_natCast] at hcell
        have hp : rd gs (k : Int) = gs.getD k 0 := by unfold rd; rw [Int.toNat_natCast]
        have hin : gs.getD k 0 ∈ gs := by rw [List.getD_eq_getElem?_getD, List.getElem?_eq_getElem (by rw [HRR.out.1]; omega)]; exact List.getElem_mem _
        have hpw := HGS.out _ hin
        have htk : gs.take (k + 1) = gs.take k ++ [gs.getD k 0] := by
          rw [List.take_add_one, List.getD_eq_getElem?_getD, List.getElem?_eq_getElem (by rw [HRR.out.1]; omega)]; rfl
        rw [hp] at hcell
        have HTK := Lib.hid htk
        clear hp hin htk
        generalize gs.getD k 0 = x at *
        obtain ⟨c0, c1, c2, f0, f1, f2⟩ := box3 HC.out
        have hwx : IntKind.u32.wrap x = x := by simp [IntKind.wrap, IntKind.bits, IntKind.signed]; omega
        have hwx2 : IntKind.u32.wrap (x * 256) = x * 256 := by simp [IntKind.wrap, IntKind.bits, IntKind.signed]; omega
        have c3 : ∀ o, (wr.alloc o).cell? ⟨X, 2, none⟩ = some v := fun o => pw_cell_below ((Below.refl _ _).alloc (Nat.le_refl _) o) c2
        go_wp2_with fail
        go_region_law (obtain ⟨i0, hi, hz0, hz1, hz2⟩ := info_parts info_u32; refine step_append_lies _ (by rfl) _ _ 22 (by rfl) (X + 1) 31 i0 (.int .u32 0) 1 4 Try.underlying22 hi hz0 hz1 hz2 (by rfl) (by decide) v k (nums .u32 ((gs.take k).map (· * 256))) (by rfl) (HO.out.alloc _) ⟨wr.heap.size, 0, none⟩ 1 1 [.int .u32 (x * 256)] (by rfl) (by rfl) (World.news_of_block (World.alloc_heap_new _ _)) (by simp; rfl) (by decide) (by unfold maxLen; omega) (by omega) (by simp; omega) _ (by rfl) ?_; intro g1 cap w1 hown hg hat hgl; have hcX := (hg.block X (by first | (simp [World.drew]; done) | (simp [World.drew]; omega) | (simp; omega)) (own_apart HO.out)).trans ((Below.heap_alloc wr _ _ (by omega)).trans HC.out); obtain ⟨_, _, q2, _, _, q5⟩ := box3 hcX; have HCX := Lib.hid hcX; have HOW := Lib.hid hown; have HGR := Lib.hid hg; clear hcX hown hg hat)
        all_goals
          have hg1 : X + 1 ≤ g1 := by
            rcases HOW.out.2 with ⟨h, _⟩ | ⟨g, cp, cur, h, hh, _⟩
            · cases h
            · cases h; exact hh
          have hnx : (w1.setCell ⟨X, 2, none⟩ (.slice (some ⟨g1, 0, none⟩) (k + 1) cap)).heap[X]? = some (.cells #[.int .i64 n, .int .i64 1, .slice (some ⟨g1, 0, none⟩) (k + 1 : Nat) cap] 24 (0, 0)) := blk_set HCX.out 2 _
          have hno := own_mods HOW.out ((Mods.refl [X] w1).setCell (p := ⟨X, 2, none⟩) (.inl (by simp)) (.slice (some ⟨g1, 0, none⟩) (k + 1) cap)) (by simp; omega)
          have hns : X + 1 ≤ w1.heap.size := by have := HGR.out.size; simp [World.drew] at this; omega
          have hbz := ((HB.out.alloc (by omega) (.cells #[.int .u32 (x * 256)] 31)).drew.grown HGR.out (by simp [World.drew]; omega) (fun r hr => by have := own_rows HO.out r hr; omega)).setCell (p := ⟨X, 2, none⟩) (Nat.le_refl _) (.slice (some ⟨g1, 0, none⟩) (k + 1) cap)
          have hli : nums .u32 ((gs.take k).map (· * 256)) ++ [.int .u32 (x * 256)] = nums .u32 ((gs.take (k + 1)).map (· * 256)) := by rw [HTK.out, List.map_append]; simp [nums]
          rw [hli] at hno
          have HNX := Lib.hid hnx; have HNO := Lib.hid hno; have HBZ := Lib.hid hbz
          clear hnx hno hbz hli HCX HOW HGR q2 q5 c0 c1 c2 c3 f0 f1 f2 hcell
          go_wp2_with fail
          go_roundw
          · exact ⟨k + 1, _, by omega, by go_num, HNX.out, HNO.out, by simp [World.setCell]; omega, HBZ.out⟩
          · simp [intOf]; omega
      · have hkn : k = n := by omega
        subst hkn
        have hO := HO.out
        rw [show gs.take k = gs from List.take_of_length_le (by rw [HRR.out.1]; exact Nat.le_refl _)] at hO
        obtain ⟨g, cp, rfl, hgX, hgl⟩ : ∃ g cp, v = .slice (some ⟨g, 0, none⟩) k cp ∧ X + 1 ≤ g ∧ g < wr.heap.size := by
          rcases hO.2 with ⟨_, h0⟩ | ⟨g, cap, cur, e1, e2, e3, _⟩
          · omega
          · exact ⟨g, cap, e1, e2, blk_lt e3⟩
        have HRP := Lib.hid (own_reads' hO)
        have hSS : ReadsInt wr .u32 B m ls := HSS.out.below (by have := HX.out; rw [this]; exact HB.out)
        obtain ⟨c0, c1, c2, _, _, _⟩ := box3 HC.out
        have hbm : bitsT m = 0 := by unfold bitsT; rw [if_neg (by omega), if_neg (by omega), if_neg (by omega)]
        have hgd : goodI k 1 k = true := by unfold goodI; exact decide_eq_true (by omega)
        have hgt : goodT m = true := by unfold goodT; exact decide_eq_true (by omega)
        have hbl : blocksI k 0 = (k : Int) := by unfold blocksI; simp
        have hou : okU k 1 k m k = true := by
          unfold okU; rw [hgd, hgt, hbm, hbl]; simp; omega
        have call := unpack_good k 1 k (some ⟨g, 0, none⟩) B k cp m d (gs.map (· * 256)) ls wr HRP.out hSS (fun y hy => by
          obtain ⟨z, hz, rfl⟩ := List.mem_map.1 hy
          have := HGS.out z hz; omega) HLS.out hou
        rw [hbm, Nat.mul_one] at call
        have CALL := Lib.hid call
        clear call hou hbl hgt hgd hbm hSS hO HO
        go_wp2_with fail
        refine CALL.out.mono ?_
        rintro e w2 ⟨g2, rfl, hO2, hB2⟩
        have HO2 := Lib.hid hO2
        have HB2 := Lib.hid (below_then HB.out (by omega) hB2)
        clear hO2 hB2 CALL
        go_wp2_with fail
        have hb5 := (Below.refl _ w2).alloc (Nat.le_refl _) (.cells #[.int .i64 k, .int .i64 1, .slice (some ⟨g2, 0, none⟩) k k] 24)
        have HRG := Lib.hid ((HRR.out.below (by have := HX.out; rw [this]; exact HB2.out)).below hb5)
        have HRL := Lib.hid ((HSS.out.below (by have := HX.out; rw [this]; exact HB2.out)).below hb5)
        have HRO := Lib.hid ((own_reads' HO2.out).below hb5)
        have HBB := Lib.hid (HB2.out.alloc (by have := HB2.out.size; have := HX.out; omega) (.cells #[.int .i64 k, .int .i64 1, .slice (some ⟨g2, 0, none⟩) k k] 24))
        obtain ⟨p0, p1, p2, _, _, _⟩ := box3 (alloc_new w2 #[.int .i64 k, .int .i64 1, .slice (some ⟨g2, 0, none⟩) k k] 24)
        obtain ⟨Y, hY⟩ : ∃ Y, w2.heap.size = Y := ⟨_, rfl⟩
        rw [hY] at p0 p1 p2 ⊢
        clear hb5 HO2 HB2 hY HRP c0 c1 c2 HC HB
        generalize w2.alloc (.cells #[.int .i64 k, .int .i64 1, .slice (some ⟨g2, 0, none⟩) k k] 24) = W5 at *
        go_loopw [9, 10] (fun vi _ wr => ∃ j : Nat, j ≤ k ∧ vi = .int .i64 j ∧ wr = W5) (fun vi _ _ => k - (intOf vi).toNat)
        case atStart => exact ⟨0, Nat.zero_le _, rfl, rfl⟩
        case round =>
          obtain ⟨j, hj, rfl, rfl⟩ := hrel
          by_cases hlt : j < k
          · obtain ⟨ad, hA, cg⟩ := ReadsInt.at_ HRG.out (j : Int) (by omega) (by omega)
            subst hA
            obtain ⟨ao, hao, co⟩ := ReadsInt.at_ HRO.out (j : Int) (by omega) (by omega)
            cases hao
            rw [Int.toNat_natCast] at cg co
            rw [add_plain] at co
            have hp : rd gs (j : Int) = gs.getD j 0 := by unfold rd; rw [Int.toNat_natCast]
            have hin : gs.getD j 0 ∈ gs := by rw [List.getD_eq_getElem?_getD, List.getElem?_eq_getElem (by rw [HRR.out.1]; omega)]; exact List.getElem_mem _
            have hpw := HGS.out _ hin
            have hun := unp_plain (ls := ls) hlt HRR.out.1 hpw.1 hpw.2
            have hpo : rd ((List.range k).map (unpPix k k 0 (gs.map (· * 256)) ls)) (j : Int) = unpPix k k 0 (gs.map (· * 256)) ls j := by
              unfold rd; rw [Int.toNat_natCast, List.getD_eq_getElem?_getD, List.getElem?_map, List.getElem?_range hlt]; rfl
            rw [hpo, hun] at co
            rw [hp] at cg
            clear hp hin hun hpo
            generalize gs.getD j 0 = x at *
            obtain ⟨xn, rfl⟩ : ∃ xn : Nat, x = xn := ⟨x.toNat, by omega⟩
            have hlen : (ls.length : Int) = m := by have := HSS.out.1; omega
            rw [hlen, Int.toNat_natCast] at co
            by_cases hxm : xn < m
            · have hd : decide ((xn : Int) < (m : Int)) = true := by simp; omega
              have hd2 : (xn : Int) < (m : Int) := by omega
              rw [if_pos hd2] at co
              obtain ⟨al, hal, cl⟩ := ReadsInt.at_ HRL.out (xn : Int) (by omega) (by omega)
              subst hal
              rw [Int.toNat_natCast] at cl
              have hpl : rd ls (xn : Int) = ls.getD xn 0 := by unfold rd; rw [Int.toNat_natCast]
              rw [hpl] at cl
              clear hpl
              generalize ls.getD xn 0 = y at *
              go_wp2_with fail
              go_roundw
              case rel => exact ⟨j + 1, by omega, by go_num, by first | rfl | trivial⟩
              case measure => simp [intOf]; omega
            · have hd : decide ((xn : Int) < (m : Int)) = false := by simp; omega
              have hd2 : ¬ (xn : Int) < (m : Int) := by omega
              rw [if_neg hd2] at co
              go_wp2_with fail
              go_roundw
              case rel => exact ⟨j + 1, by omega, by go_num, by first | rfl | trivial⟩
              case measure => simp [intOf]; omega
          · have hjk : j = k := by omega
            subst hjk
            have hXl : X ≤ wr.heap.size := by have := HBB.out.size; have := HX.out; omega
            go_wp2_with fail
            refine (answers16 _).mono ?_
            rintro e w6 ⟨rfl, hB6⟩
            go_wp2_with fail
            go_ret
            exact ⟨rfl, by have := HX.out; rw [this]; exact below_then HBB.out hXl hB6⟩
  · have hcase : n = 0 ∨ (¬ n = 0 ∧ 300 < n) ∨ (¬ n = 0 ∧ ¬ 300 < n ∧ m < 17) ∨ (¬ n = 0 ∧ ¬ 300 < n ∧ ¬ m < 17 ∧ 256 < m) := by omega
    clear hok
    rcases hcase with h1 | ⟨h1, h2⟩ | ⟨h1, h2, h3⟩ | ⟨h1, h2, h3, h4⟩
    · subst h1
      go_enter Try.func6, Try.ntmps6
      go_wp2_with fail
      refine (answers16 _).mono ?_
      rintro e w6 ⟨rfl, hB6⟩
      go_wp2_with fail
      go_ret
      exact ⟨rfl, hB6⟩
    · have z1 : ((n : Int) == 0) = false := by simp; omega
      have z2 : decide ((300 : Int) < (n : Int)) = true := by simp; omega
      go_enter Try.func6, Try.ntmps6
      go_wp2_with fail
      refine (answers16 _).mono ?_
      rintro e w6 ⟨rfl, hB6⟩
      go_wp2_with fail
      go_ret
      exact ⟨rfl, hB6⟩
    · have z1 : ((n : Int) == 0) = false := by simp; omega
      have z2 : decide ((300 : Int) < (n : Int)) = false := by simp; omega
      have z3 : decide ((m : Int) < 17) = true := by simp; omega
      go_enter Try.func6, Try.ntmps6
      go_wp2_with fail
      refine (answers16 _).mono ?_
      rintro e w6 ⟨rfl, hB6⟩
      go_wp2_with fail
      go_ret
      exact ⟨rfl, hB6⟩
    · have z1 : ((n : Int) == 0) = false := by simp; omega
      have z2 : decide ((300 : Int) < (n : Int)) = false := by simp; omega
      have z3 : decide ((m : Int) < 17) = false := by simp; omega
      have z4 : decide ((256 : Int) < (m : Int)) = true := by simp; omega
      go_enter Try.func6, Try.ntmps6
      go_wp2_with fail
      refine (answers16 _).mono ?_
      rintro e w6 ⟨rfl, hB6⟩
      go_wp2_with fail
      go_ret
      exact ⟨rfl, hB6⟩
end Go.Proofs.Ytmgkdlkjcncniaa
