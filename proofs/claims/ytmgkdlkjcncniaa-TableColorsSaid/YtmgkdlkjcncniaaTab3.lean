/- table.Colors. -/
import Derived.Test.YtmgkdlkjcncniaaTab2P
import Derived.Test.YtmgkdlkjcncniaaTabP
import Derived.Test.YtmgkdlkjcncniaaSrtL
import Derived.Maps.OwnSet
import Derived.Maps.RangeWalk
namespace Go.Proofs.Ytmgkdlkjcncniaa
open Go.RowKit Go.Maps
open Go.Proofs.YtmgkdlkjcncniaaW.PrintWords

theorem clip_any (g n c : Nat) (w : World) (h : n ≤ c) : Calls Try.prog 24 #[.slice (some ⟨g, 0, none⟩) n c] w fun e w' => e = .returned (.slice (some ⟨g, 0, none⟩) n n) ∧ w = w' := by
  go_enter Try.func24, Try.ntmps24
  go_wp2_with fail
  go_ret
  exact ⟨rfl, rfl⟩

theorem lawU : Keyed Try.prog 31 := int_keyed Try.underlying31
theorem zeroI (w : World) : (zeroValue 3).run Try.prog w = .ok (.int .i64 0) w := by kernel_rfl
abbrev Dm : Type := DataW Unit
abbrev litU (x : Int) : Lit := .int .u32 x
abbrev OwnM (w : World) (b n : Nat) (D : Dm) : Prop := w.ownsMap Try.prog 31 (plainElem Try.prog 3) b n D
/-- The map has just these keys. -/
structure KeysAre (D : Dm) (ks : List Int) : Prop where
  has : ∀ x, Maps.has D (litU x) = decide (x ∈ ks)
  size : Maps.size D = ks.length
theorem litU_ne {x y : Int} (h : y ≠ x) : litU y ≠ litU x := fun e => h (by injection e)
theorem KeysAre.put {D : Dm} {ks : List Int} (h : KeysAre D ks) (ht : Tidy D) (hu : Tb.Up ks) (p : Int) (hk : WideAt.IsKeyLit (litU p)) (d : Dm) : KeysAre (D.put (litU p) d) (Tb.ins p ks) := by
  constructor
  · intro x
    by_cases hx : x = p
    · subst hx
      rw [has_put_same ht.isMap hk]
      simp [Tb.mem_ins]
    · rw [has_put_other (litU_ne hx), h.has]
      simp [Tb.mem_ins, hx]
  · rw [size_put ht, h.has, h.size]
    by_cases hp : p ∈ ks
    · rw [Tb.ins_same hu hp]; simp [hp]
    · rw [Tb.ins_len hp]; simp [hp]


set_option maxRecDepth 100000 in
set_option maxHeartbeats 4000000 in
theorem colors_bad (W H : Int) (A : Option Addr) (n c : Nat) (w : World) (hg : goodI W H n = false) : Calls Try.prog 9 #[.agg #[.int .i64 W, .int .i64 H, .slice A n c]] w fun e w' =>
    e = .returned (.tuple #[.slice none 0 0, .bool false]) ∧ Below w.heap.size w w' := by
  have HG := Lib.hid hg
  clear hg
  go_enter Try.func9, Try.ntmps9
  go_wp2_with fail
  refine (good_any W H A n c _).mono ?_
  rw [HG.out]
  rintro e w1 ⟨rfl, hB⟩
  have HB := Lib.hid (below_then ((Below.refl _ w).alloc (Nat.le_refl _) _) (by simp) hB)
  clear hB
  go_wp2_with fail
  refine bodyPost_ret (results_two rfl _ _ _) rfl ?_
  exact ⟨rfl, HB.out⟩

theorem sameU (y x : Int) : (litU y).sameKey (litU x) = decide (y = x) := by
  by_cases h : y = x
  · subst h; simp [Lit.sameKey]
  · rw [sameKey_ne (litU_ne h)]; simp [h]
theorem ranges_below {w w1 : World} {b r n cnt B : Nat} {D : Dm} {left : Lit → Bool} (h : w.ranges Try.prog 31 (plainElem Try.prog 3) b r n D left cnt) (hb : Below B w w1) (h1 : b < B) (h2 : r < B) : w1.ranges Try.prog 31 (plainElem Try.prog 3) b r n D left cnt := by
  obtain ⟨es, clock, since, seen, c0, e1, e2, e3, e4, e5, e6⟩ := h
  exact ⟨es, clock, since, seen, c0, (hb.block b h1).trans e1, e2, e3, e4, (hb.block r h2).trans e5, e6⟩
theorem own_grown {w w1 : World} {B s N r : Nat} {e : TypeId} {v : Value} {xs : List Value} (h : w.ownsRow B e s v N xs) (hg : w.grownBy w1 (some r)) (hr : B ≤ r → False) : w1.ownsRow B e s v N xs := by
  refine ⟨h.1, h.2.imp id fun ⟨g, cap, cur, h1, h2, h3, h4⟩ => ⟨g, cap, cur, h1, h2, ?_, h4⟩⟩
  rw [hg.block g (blk_lt h3) (fun e => by cases e; exact hr h2)]
  exact h3

set_option maxRecDepth 100000 in
set_option maxHeartbeats 4000000 in
theorem colors_good (W H : Int) (A : Option Addr) (n c : Nat) (ps : List Int) (w : World) (HR : ReadsInt w .u32 A n ps) (hps : ∀ x ∈ ps, 0 ≤ x ∧ x < 4294967296) (hg : goodI W H n = true) :
    Calls Try.prog 9 #[.agg #[.int .i64 W, .int .i64 H, .slice A n c]] w fun e w' => Below w.heap.size w w' ∧
      ((256 < (Tb.cols ps).length ∧ e = .returned (.tuple #[.slice none 0 0, .bool false])) ∨
       ((Tb.cols ps).length ≤ 256 ∧ ∃ g, w.heap.size ≤ g ∧ e = .returned (.tuple #[.slice (some ⟨g, 0, none⟩) (Tb.cols ps).length (Tb.cols ps).length, .bool true]) ∧ ReadsInt w' .u32 (some ⟨g, 0, none⟩) (Tb.cols ps).length (Tb.cols ps))) := by
  have HRR := Lib.hid HR; have HPS := Lib.hid hps; have HG := Lib.hid hg
  have hr := hg
  unfold goodI at hr
  obtain ⟨hW1, hW2, hH1, hH2, hn⟩ := of_decide_eq_true hr
  have hpr := prod_room hW1 hW2 hH1 hH2
  have hn1 : 1 ≤ n ∧ n ≤ 268435456 := by omega
  obtain ⟨hn0, hn2⟩ := hn1
  obtain ⟨C, hC⟩ : ∃ C, Tb.cols ps = C := ⟨_, rfl⟩
  have HC := Lib.hid hC
  rw [hC]
  clear hr hpr hn hps hg hC HR
  have hmm := @run_makeMap Try.prog
  go_enter Try.func9, Try.ntmps9
  go_wp2_with fail
  have hnew : (w.alloc (.cells #[.int .i64 W, .int .i64 H, .slice A n c] 24)).heap[w.heap.size]? = some (.cells #[.int .i64 W, .int .i64 H, .slice A n c] 24 (0, 0)) := alloc_new _ _ _
  refine (good_any W H A n c _).mono ?_
  rw [HG.out]
  rintro e w1 ⟨rfl, hB⟩
  have hcell := (Mods.of_below hB []).blk hnew (by simp)
  have HB := Lib.hid (below_then ((Below.refl _ w).alloc (Nat.le_refl _) _) (by simp) hB)
  have hc2 : ∀ o, (w1.alloc o).cell? ⟨w.heap.size, 2, none⟩ = some (.slice A n c) := fun o => by
    have h := ((Mods.refl [] w1).alloc o).blk hcell (by simp)
    rw [cell_blk h]; rfl
  have hz1 : w.heap.size + 1 ≤ w1.heap.size := by have := hB.size; simp at this; omega
  clear hB hnew hcell
  go_wp2_with fail
  go_loopw [6, 16] (fun _ vi wr => ∃ (k : Nat) (D : Dm), vi = .int .i64 k ∧ k ≤ n ∧ Hid (OwnM wr w1.heap.size k D) ∧ Hid (KeysAre D (Tb.cols (ps.take k)) ∧ (Tb.cols (ps.take k)).length ≤ 256) ∧ Hid (Below w1.heap.size w1 wr)) (fun _ vi _ => n - (intOf vi).toNat)
  case atStart => exact ⟨0, .map [], rfl, Nat.zero_le _, World.ownsMap_made _ _ _ _, ⟨⟨fun x => by simp [Tb.cols, Maps.has], rfl⟩, by simp [Tb.cols]⟩, (Below.refl _ _).alloc (Nat.le_refl _) _⟩
  case round =>
    clear hc2
    obtain ⟨k, D, rfl, hk, HM, HK, HBX⟩ := hrel
    have HBT := Lib.hid (below_then HB.out HB.out.size HBX.out)
    by_cases hlt : k < n
    · obtain ⟨ad, hA, hcell⟩ := ReadsInt.at_ (HRR.out.below HBT.out) (k : Int) (by omega) (by omega)
      rw [Int.toNat_natCast] at hcell
      subst hA
      have hlen : ps.length = n := HRR.out.1
      have hp : rd ps (k : Int) = ps.getD k 0 := by unfold rd; rw [Int.toNat_natCast]
      have hin : ps.getD k 0 ∈ ps := by rw [List.getD_eq_getElem?_getD, List.getElem?_eq_getElem (by omega)]; exact List.getElem_mem _
      have htk : ps.take (k + 1) = ps.take k ++ [ps.getD k 0] := by
        rw [List.take_add_one, List.getD_eq_getElem?_getD, List.getElem?_eq_getElem (by omega)]; rfl
      have hpw := HPS.out _ hin
      rw [hp] at hcell
      have hco : Tb.cols (ps.take (k + 1)) = Tb.ins (ps.getD k 0) (Tb.cols (ps.take k)) := by rw [htk, Tb.cols_snoc]
      have HCO := Lib.hid hco
      clear hp hin htk hco hlen
      generalize ps.getD k 0 = p at *
      have hwf : (Lit.int .u32 p).wf = true := by simp [Lit.wf, IntKind.min, IntKind.max, IntKind.bits, IntKind.signed]; omega
      have hkey := keyOf_int_mk Try.underlying31 hwf
      have hkp := fun d => HK.out.1.put (HM.out.tidy lawU) (Tb.up_cols _) p (lawU.key hkey) d
      rw [← HCO.out] at hkp
      have HKP := Lib.hid hkp
      have hmo := Tb.cols_mono ps (k + 1)
      rw [HC.out] at hmo
      have HMO := Lib.hid hmo
      clear hkp hmo
      have hmx : k < maxLen := by unfold maxLen; omega
      have HPW := Lib.hid hpw
      clear hpw
      obtain ⟨m1, hm1⟩ : ∃ m1, (Tb.cols (ps.take (k + 1))).length = m1 := ⟨_, rfl⟩
      have hszd : ∀ d, Maps.size (DataW.put D (.int .u32 p) d) = m1 := fun d => by rw [← hm1]; exact (HKP.out d).size
      have HM1 := Lib.hid hm1
      clear hm1
      by_cases h256 : 256 < m1
      · have hdd : decide ((256 : Int) < (m1 : Int)) = true := by simp; omega
        have hdd2 : (256 : Int) < (m1 : Int) := by omega
        go_wp2_with (first
          | (at_lookup; refine wpList_lookup_own_int _ rfl _ _ 46 rfl 31 3 .i64 lawU Try.underlying46 Try.underlying3 (zeroI _) w1.heap.size k _ rfl HM.out _ _ rfl hkey ?_; intro c hat hwc)
          | (at_mapUpdate; refine wpList_mapUpdate_own _ rfl _ _ _ 46 rfl 31 3 lawU Try.underlying46 _ w1.heap.size k _ rfl HM.out hmx _ _ _ rfl rfl hkey _ [] (plainElem_int Try.underlying3 (wrap64_wf _)) ?_; intro w2 hown2 hgrow2)
          | (at_len; refine wpList_len_own _ rfl _ 46 rfl 31 3 Try.underlying46 _ w1.heap.size (k + 1) _ rfl hown2 ?_)
          | go_in)
        refine bodyPost_ret (results_two rfl _ _ _) rfl ?_
        exact ⟨HBT.out.grown hgrow2 (HBT.out.size) (fun j hj => by cases hj; omega), .inl ⟨by have := HMO.out; have := HM1.out; omega, rfl⟩⟩
      · have hdd : decide ((256 : Int) < (m1 : Int)) = false := by simp; omega
        have hdd2 : ¬ (256 : Int) < (m1 : Int) := by omega
        go_wp2_with (first
          | (at_lookup; refine wpList_lookup_own_int _ rfl _ _ 46 rfl 31 3 .i64 lawU Try.underlying46 Try.underlying3 (zeroI _) w1.heap.size k _ rfl HM.out _ _ rfl hkey ?_; intro c hat hwc)
          | (at_mapUpdate; refine wpList_mapUpdate_own _ rfl _ _ _ 46 rfl 31 3 lawU Try.underlying46 _ w1.heap.size k _ rfl HM.out hmx _ _ _ rfl rfl hkey _ [] (plainElem_int Try.underlying3 (wrap64_wf _)) ?_; intro w2 hown2 hgrow2)
          | (at_len; refine wpList_len_own _ rfl _ 46 rfl 31 3 Try.underlying46 _ w1.heap.size (k + 1) _ rfl hown2 ?_)
          | go_in)
        go_roundw
        case rel => exact ⟨k + 1, _, by go_num, by omega, hown2, ⟨HKP.out _, by have := HM1.out; omega⟩, HBX.out.grown hgrow2 HBX.out.size (fun j hj => by cases hj; exact Nat.le_refl _)⟩
        case measure => simp [intOf]; omega
    · have hkn : k = n := by omega
      subst hkn
      have hfull : ps.take k = ps := List.take_of_length_le (by rw [HRR.out.1]; exact Nat.le_refl _)
      have hk0 := HK.out
      rw [hfull, HC.out] at hk0
      have HKC := Lib.hid hk0
      have hup := Tb.up_cols ps
      rw [HC.out] at hup
      have HUP := Lib.hid hup
      have hne : 1 ≤ C.length := by
        have : ps.getD 0 0 ∈ C := by
          rw [← HC.out, Tb.mem_cols, List.getD_eq_getElem?_getD, List.getElem?_eq_getElem (by rw [HRR.out.1]; omega)]; exact List.getElem_mem _
        exact List.length_pos_of_mem this
      clear hfull hk0 hup
      obtain ⟨W0, hW0⟩ : ∃ W0 : World, W0 = wr := ⟨_, rfl⟩
      subst hW0
      go_wp2_with (first
        | (at_range; refine wpList_range_own _ rfl _ 46 rfl 31 3 lawU Try.underlying46 _ w1.heap.size k _ rfl HM.out ?_; intro w3 hrg0 hg0 hs0)
        | go_in)
      go_frame
      obtain ⟨r, hr⟩ : ∃ r, W0.heap.size = r := ⟨_, rfl⟩
      rw [hr] at hrg0 hs0 ⊢
      have hr1 : w1.heap.size < r := by have := HM.out.lt; omega
      have HRG := Lib.hid hrg0; have HB3 := Lib.hid (HBX.out.grown hg0 HBX.out.size (fun j hj => by cases hj))
      have hne2 : r ≠ w1.heap.size := by omega
      clear hrg0 hg0 hr HM HBX HBT
      go_loopw [7, 8] (fun v _ wr => ∃ (left : Lit → Bool) (cnt : Nat) (ss : List Int), Hid (wr.ranges Try.prog 31 (plainElem Try.prog 3) w1.heap.size r k D left cnt) ∧ Hid (wr.ownsRow (r + 1) 31 1 v ss.length (nums .u32 ss)) ∧ Hid (ss.Nodup ∧ (∀ y, y ∈ ss ↔ (y ∈ C ∧ left (litU y) = false)) ∧ (∀ y, left (litU y) = true → y ∈ C)) ∧ ss.length + cnt ≤ C.length ∧ r + 1 ≤ wr.heap.size ∧ Hid (Below w1.heap.size w1 wr)) (fun _ _ wr => wr.rangeLeft w1.heap.size r)
      case atStart =>
        refine ⟨_, _, [], HRG.out, own_nil _ _ _ _, ⟨List.nodup_nil, fun y => ?_, fun y hy => ?_⟩, ?_, by omega, HB3.out⟩
        · rw [HKC.out.1.has]; simp
        · rw [HKC.out.1.has] at hy; simpa using hy
        · rw [HKC.out.1.size]; simp
      case round =>
        clear HRG HB3 hs0
        obtain ⟨left, cnt, ss, HRG, HO, HSS, hcnt, hsz, HB3⟩ := hrel
        have hC256 := HKC.out.2
        go_wp2_with (first
          | (at_next; refine wpList_next_ranges_ii _ rfl _ rfl 31 3 .u32 .i64 lawU Try.underlying31 Try.underlying3 w1.heap.size r k _ _ _ rfl HRG.out ?_ ?_)
          | go_in)
        · intro hc0 hl0
          have hss : ∀ y, y ∈ ss ↔ y ∈ C := fun y => by rw [HSS.out.2.1, hl0]; simp
          have hsort := Tb.sort_same HUP.out HSS.out.1 hss
          have HSORT := Lib.hid hsort
          have hlen : ss.length = C.length := by have := congrArg List.length hsort; rw [List.length_mergeSort] at this; exact this
          have ho := HO.out
          rw [hlen] at ho
          obtain ⟨g, cp, rfl, hgr, hcp, hgl⟩ : ∃ g cp, u7 = .slice (some ⟨g, 0, none⟩) C.length cp ∧ r + 1 ≤ g ∧ C.length ≤ cp ∧ g < wr.heap.size := by
            rcases ho.2 with ⟨_, h0⟩ | ⟨g, cap, cur, h1, h2, h3, h4, _⟩
            · omega
            · exact ⟨g, cap, h1, h2, h4, blk_lt h3⟩
          have HO2 := Lib.hid ho
          have HLEN := Lib.hid hlen
          clear ho hlen hss hsort HO
          go_wp2_with fail
          refine (sort_any (r + 1) g C.length cp ss wr (by omega) HO2.out hgl).mono ?_
          rintro e w6 ⟨rfl, ho6, hm6⟩
          rw [HSORT.out] at ho6
          have HO6 := Lib.hid ho6
          have HB6 := Lib.hid (Below.then_mods HB3.out HB3.out.size hm6 (by simp; omega))
          clear ho6 hm6
          go_wp2_with fail
          refine (clip_any g C.length cp w6 hcp).mono ?_
          rintro e w7 ⟨rfl, rfl⟩
          go_wp2_with fail
          refine bodyPost_ret (results_two rfl _ _ _) rfl ?_
          exact ⟨below_then HB.out HB.out.size HB6.out, .inr ⟨hC256, g, by omega, rfl, own_reads' HO6.out⟩⟩
        · intro x c2 w4 cnt1 hwx hwc hlx hat hrg1 hlt1 hg1 hs1 hen
          have HRG1 := Lib.hid hrg1
          have HO1 := Lib.hid (own_grown HO.out hg1 (by intro h; omega))
          have HB4 := Lib.hid (HB3.out.grown hg1 HB3.out.size (fun j hj => by cases hj; omega))
          have HLX := Lib.hid hlx
          have HSZ := Lib.hid hs1
          clear hrg1 hat hlx hg1 hs1
          go_wp2_with (first | (at_builtin; refine print_append_num (r + 1) rfl _ _ 22 31 .u32 4 rfl Try.underlying22 info_u32 (by decide) _ ss x rfl rfl (by exact HO1.out) (Below.refl _ _) (by have := HSZ.out; omega) (by omega) ?_; intro v1 w5 hown5 hB5 hg5 hat5) | go_in)
          have hrg2 := ranges_below HRG1.out hB5 (by omega) (by omega)
          have hm2 := HRG1.out.left_eq
          have hm3 := HRG.out.left_eq
          have hm4 := hrg2.left_eq
          have hxC : x ∈ C := HSS.out.2.2 x HLX.out
          have hxs : x ∉ ss := fun h => by have := ((HSS.out.2.1 x).1 h).2; rw [HLX.out] at this; cases this
          have hfin : (ss ++ [x]).Nodup ∧ (∀ y, y ∈ ss ++ [x] ↔ (y ∈ C ∧ (left (litU y) && !(litU y).sameKey (litU x)) = false)) ∧ (∀ y, (left (litU y) && !(litU y).sameKey (litU x)) = true → y ∈ C) := by
            refine ⟨List.nodup_append.2 ⟨HSS.out.1, by simp, by intro a ha b hb; simp at hb; subst hb; intro e; subst e; exact hxs ha⟩, fun y => ?_, fun y hy => ?_⟩
            · rw [List.mem_append, HSS.out.2.1, sameU]
              by_cases hy : y = x
              · subst hy; simp [hxC]
              · simp [hy]
            · rw [sameU] at hy
              simp at hy
              exact HSS.out.2.2 y hy.1
          have HFIN := Lib.hid hfin
          have hcnt2 : (ss ++ [x]).length + cnt1 ≤ C.length := by simp; omega
          have hsz5 : r + 1 ≤ w5.heap.size := by have := hB5.size; have := HSZ.out; omega
          have HB5 := Lib.hid (HB4.out.trans (hB5.mono (by omega)))
          clear hfin hxC hxs hg5 hat5 hm2
          go_roundw
          case rel => exact ⟨_, cnt1, ss ++ [x], hrg2, hown5, HFIN.out, hcnt2, hsz5, HB5.out⟩
          case measure => rw [hm4, hm3]; exact hlt1
end Go.Proofs.Ytmgkdlkjcncniaa
