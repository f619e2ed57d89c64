/- What code.One, code.Order and code.Codes do. -/
import Derived.Test.YtfeloicmkcfinaaDoorCode
import Derived.Test.YtfeloicmkcfinaaDoorCodeP2
import Derived.Test.YtfeloicmkcfinaaDoorSortI4
namespace Go.Proofs.YtfeloicmkcfinaaDoor
open Go.RowKit
open Go.Proofs.YtfeloicmkcfinaaDoorW.PrintWords
open Srt

abbrev hasV : Value := .func (.func 41) #[] #[]

set_option maxHeartbeats 400000 in
theorem has_any (x : Int) (w : World) : Calls Tryd.prog 41 #[.int .i64 x] w fun e w' => e = .returned (.bool (x != 0)) ∧ w = w' := by
  go_enter Tryd.func41, Tryd.ntmps41
  go_wp2
  go_ret
  exact ⟨rfl, rfl⟩

set_option maxHeartbeats 1000000 in
theorem indexNz (A : Option Addr) (n c : Nat) (ls : List Int) (w : World) (HR : ReadsInt w .i64 A n ls) (hn : n ≤ 17592186044416) :
    Calls Tryd.prog 42 #[.slice A n c, hasV] w fun e w' => e = .returned (.int .i64 (firstNz ls)) ∧ w = w' := by
  have HRR := Lib.hid HR; have HL := Lib.hid HR.1
  clear HR
  go_enter Tryd.func42, Tryd.ntmps42
  go_wp2
  go_loop [5, 8] (fun v i => ∃ k : Nat, k ≤ n ∧ i = .int .i64 k ∧ Hid (nzUp ls k = [])) (fun _ i => n - (intOf i).toNat)
  case atStart => exact ⟨0, Nat.zero_le _, rfl, rfl⟩
  case round =>
    obtain ⟨k, hk, rfl, HN⟩ := hrel
    by_cases hlt : k < n
    · obtain ⟨ad, hA, hcell⟩ := ReadsInt.at_ HRR.out (k : Int) (by omega) (by omega)
      rw [Int.toNat_natCast, rd_ln] at hcell
      subst hA
      have hkl : k < ls.length := by have := HL.out; omega
      by_cases hz : ln ls k = 0
      · have hzb : (ln ls k != 0) = false := by simp [hz]
        have HS := Lib.hid (nzUp_miss ls k hz)
        clear hz
        go_wp2_with (go_at_call 41; refine (has_any _ _).mono ?_; rintro e w' ⟨rfl, rfl⟩)
        go_round
        case rel => exact ⟨k + 1, by omega, by go_num, by show _ = _; rw [HS.out, HN.out]⟩
        case measure => simp [intOf]; omega
      · have hzb : (ln ls k != 0) = true := by simp [hz]
        have HF := Lib.hid (firstNz_some hkl HN.out hz).1
        clear hz
        go_wp2_with (go_at_call 41; refine (has_any _ _).mono ?_; rintro e w' ⟨rfl, rfl⟩)
        go_ret
        exact ⟨by rw [HF.out]; rfl, rfl⟩
    · have hkn : k = ls.length := by have := HL.out; omega
      have HF := Lib.hid (firstNz_none (by rw [← hkn]; exact HN.out))
      clear hkn
      go_wp2
      go_ret
      exact ⟨by rw [HF.out]; rfl, rfl⟩

set_option maxHeartbeats 400000 in
theorem containsNz (A : Option Addr) (n c : Nat) (ls : List Int) (b : Bool) (w : World) (HR : ReadsInt w .i64 A n ls) (hn : n ≤ 17592186044416) (hb : Hid (decide (0 ≤ firstNz ls) = b)) :
    Calls Tryd.prog 43 #[.slice A n c, hasV] w fun e w' => e = .returned (.bool b) ∧ w = w' := by
  have HRR := Lib.hid HR
  clear HR
  obtain ⟨f, HF⟩ : ∃ f, Hid (firstNz ls = f) := ⟨_, rfl⟩
  have hd : decide (0 ≤ f) = b := by rw [← HF.out]; exact hb.out
  go_enter Tryd.func43, Tryd.ntmps43
  go_wp2_with (go_at_call 42; refine (indexNz A n c ls w HRR.out hn).mono ?_; rintro e w' ⟨rfl, rfl⟩; rw [HF.out])
  go_ret
  exact ⟨rfl, rfl⟩

set_option maxHeartbeats 1000000 in
theorem one_any (A : Option Addr) (n c : Nat) (ls : List Int) (w : World) (HR : ReadsInt w .i64 A n ls) (hn : n ≤ 17592186044416) (hc : n ≤ c) :
    Calls Tryd.prog 29 #[.slice A n c] w fun e w' => e = .returned (.tuple #[.int .i64 (oneS ls).1, .bool (oneS ls).2]) ∧ w = w' := by
  have HRR := Lib.hid HR; have HL := Lib.hid HR.1
  clear HR
  by_cases hz : nonzero ls = []
  · have HF := Lib.hid (firstNz_none hz)
    have HO := Lib.hid (show oneS ls = (0, false) from by unfold oneS; rw [hz]; rfl)
    clear hz
    go_enter Tryd.func29, Tryd.ntmps29
    go_wp2_with (go_at_call 42; refine (indexNz A n c ls w HRR.out hn).mono ?_; rintro e w' ⟨rfl, rfl⟩; rw [HF.out])
    go_ret2
    exact ⟨by rw [HO.out]; rfl, rfl⟩
  · have hex : ∃ k, k < n ∧ nzUp ls k = [] ∧ ln ls k ≠ 0 := by
      have hl := HL.out
      have : ∀ m, m ≤ ls.length → nzUp ls m ≠ [] → ∃ k, k < m ∧ nzUp ls k = [] ∧ ln ls k ≠ 0 := by
        intro m
        induction m with
        | zero => intro _ h; exact absurd rfl h
        | succ m ih =>
          intro hm h
          by_cases h0 : nzUp ls m = []
          · refine ⟨m, by omega, h0, fun hc => h ?_⟩
            rw [nzUp_miss ls m hc, h0]
          · obtain ⟨k, h1, h2⟩ := ih (by omega) h0
            exact ⟨k, by omega, h2⟩
      obtain ⟨k, h1, h2⟩ := this ls.length (Nat.le_refl _) hz
      exact ⟨k, by omega, h2⟩
    obtain ⟨k, hk, h0, h1⟩ := hex
    obtain ⟨e1, e2⟩ := firstNz_some (by have := HL.out; omega) h0 h1
    have HF := Lib.hid e1; have HE := Lib.hid e2
    clear hz h0 h1 e1 e2
    obtain ⟨i0, hi, hz0, hz1, hz2⟩ := info_parts info_int
    obtain ⟨A1, hcut, hA1⟩ := print_cut (P := Tryd.prog) 25 3 .i64 Tryd.underlying25 hi hz1 A n c (k + 1) (by omega)
    have HR1 := Lib.hid (hA1 w .i64 ls hc HRR.out)
    clear hi hz0 hz1 hz2 hA1
    have hcut' : ∀ W : World, (Instr.slice 25 (.slice A n c) (some (.int .i64 ((k : Int) + 1))) none none).run Tryd.prog W = .ok (.slice A1 (n - (k + 1)) (c - (k + 1))) W := hcut
    clear hcut
    have HD : Hid (ls.drop (k + 1) = ls.drop (k + 1)) := rfl
    generalize hd : ls.drop (k + 1) = ds at *
    by_cases hs : nonzero ds = []
    · have HB := Lib.hid (show decide (0 ≤ firstNz ds) = false from by rw [firstNz_none hs]; rfl)
      have HO := Lib.hid (show oneS ls = ((k : Int), true) from by unfold oneS; rw [HE.out, hs]; rfl)
      clear hs
      go_enter Tryd.func29, Tryd.ntmps29
      go_wp2_with (first | (go_at_call 42; refine (indexNz A n c ls w HRR.out hn).mono ?_; rintro e w' ⟨rfl, rfl⟩; rw [HF.out]) | (go_at_call 43; refine (containsNz A1 _ _ ds false _ HR1.out (by omega) HB).mono ?_; rintro e w' ⟨rfl, rfl⟩))
      go_ret2
      exact ⟨by rw [HO.out]; rfl, rfl⟩
    · have HB := Lib.hid (show decide (0 ≤ firstNz ds) = true from by have := mt firstNz_neg.1 hs; simp; omega)
      have HO := Lib.hid (show oneS ls = (0, false) from by
        unfold oneS; rw [HE.out]
        cases h : nonzero ds with
        | nil => exact absurd h hs
        | cons x t => rfl)
      clear hs
      go_enter Tryd.func29, Tryd.ntmps29
      go_wp2_with (first | (go_at_call 42; refine (indexNz A n c ls w HRR.out hn).mono ?_; rintro e w' ⟨rfl, rfl⟩; rw [HF.out]) | (go_at_call 43; refine (containsNz A1 _ _ ds true _ HR1.out (by omega) HB).mono ?_; rintro e w' ⟨rfl, rfl⟩))
      go_ret2
      exact ⟨by rw [HO.out]; rfl, rfl⟩

theorem keyI_keyL (ls : List Int) (x : Int) (h : 0 ≤ x) : keyI ls x = keyL ls x := by
  obtain ⟨k, rfl⟩ := Int.eq_ofNat_of_zero_le h
  unfold keyI keyL
  rw [rd_ln, Int.toNat_natCast]
theorem sorted_key {f g : Int → Int} {l : List Int} (h : ∀ x ∈ l, f x = g x) (hs : Sorted f l) : Sorted g l := by
  refine List.Pairwise.imp_of_mem ?_ hs
  intro a b ha hb hab
  rw [← h a ha, ← h b hb]; exact hab
theorem feq_key {f g : Int → Int} {a b : List Int} (ha : ∀ x ∈ a, f x = g x) (hb : ∀ x ∈ b, f x = g x) (h : FEq f a b) : FEq g a b := fun k => by
  have e : ∀ l : List Int, (∀ x ∈ l, f x = g x) → l.filter (fun x => g x == k) = l.filter (fun x => f x == k) := fun l hl => by
    apply List.filter_congr
    intro x hx
    rw [hl x hx]
  rw [e a ha, e b hb]; exact h k

set_option maxHeartbeats 400000 in
theorem insertionNil (B : Nat) (w : World) :
    Calls Tryd.prog 58 #[.slice none 0 0, .int .i64 0, .int .i64 0, cmpI B] w fun e w' => e = .returned (.tuple #[]) ∧ w = w' := by
  go_enter Tryd.func58, Tryd.ntmps58
  go_wp2_with fail
  go_loop [8, 9] (fun x y => x = .int .i64 1) (fun _ _ => 0)
  case atStart => exact rfl
  case round =>
    obtain rfl := hrel
    go_wp2_with fail
    go_end0
    exact ⟨rfl, rfl⟩
set_option maxHeartbeats 400000 in
theorem stableNil (B : Nat) (w : World) :
    Calls Tryd.prog 51 #[.slice none 0 0, .int .i64 0, cmpI B] w fun e w' => e = .returned (.tuple #[]) ∧ w = w' := by
  go_enter Tryd.func51, Tryd.ntmps51
  go_wp2_with fail
  go_loop [7, 8] (fun x y => x = .int .i64 0 ∧ y = .int .i64 20) (fun _ _ => 0)
  case atStart => exact ⟨rfl, rfl⟩
  case round =>
    obtain ⟨rfl, rfl⟩ := hrel
    go_wp2_with fail
    refine (insertionNil B w).mono ?_
    rintro e w' ⟨rfl, rfl⟩
    go_wp2_with fail
    go_loop [6, 7, 8, 9] (fun x y z v => x = .int .i64 20) (fun _ _ _ _ => 0)
    case atStart => exact rfl
    case round =>
      obtain rfl := hrel
      go_wp2_with fail
      go_end0
      exact ⟨rfl, rfl⟩
set_option maxHeartbeats 400000 in
theorem sortStableNil (B : Nat) (w : World) :
    Calls Tryd.prog 39 #[.slice none 0 0, cmpI B] w fun e w' => e = .returned (.tuple #[]) ∧ w = w' := by
  go_enter Tryd.func39, Tryd.ntmps39
  go_wp2_with fail
  refine (stableNil B w).mono ?_
  rintro e w' ⟨rfl, rfl⟩
  go_wp2_with fail
  go_end0
  exact ⟨rfl, rfl⟩

/-- What code.Order answers. -/
def OrderPost (ls : List Int) (w : World) (e : Ending) (w' : World) : Prop :=
  Below w.heap.size w w' ∧ ∃ v os, e = .returned v ∧ InOrder ls os ∧ w'.ownsRow (w.heap.size + 1) 3 1 v os.length (nums .i64 os)

set_option maxHeartbeats 2000000 in
theorem order_any (A : Option Addr) (n c : Nat) (ls : List Int) (w : World) (HR : ReadsInt w .i64 A n ls) (hn : n ≤ 17592186044416) (hv : ∀ x ∈ ls, x ≤ 9223372036854775807) :
    Calls Tryd.prog 28 #[.slice A n c] w (OrderPost ls w) := by
  have HRR := Lib.hid HR; have HL := Lib.hid HR.1; have HV := Lib.hid hv
  clear HR hv
  go_enter Tryd.func28, Tryd.ntmps28
  go_wp2_with fail
  have hB0 := (Below.refl w.heap.size w).alloc (Nat.le_refl _) (.cells #[.slice A n c] 25)
  have hBx : (w.alloc (.cells #[.slice A n c] 25)).heap[w.heap.size]? = some (.cells #[.slice A n c] 25 (0, 0)) := blk_alloc _
  have hsz : (w.alloc (.cells #[.slice A n c] 25)).heap.size = w.heap.size + 1 := by simp
  generalize hw0 : w.alloc (.cells #[.slice A n c] 25) = w0 at *
  have HB0 := Lib.hid hB0; have HBX := Lib.hid hBx; have HSZ := Lib.hid hsz; have HW0 := Lib.hid hw0
  clear hB0 hBx hsz hw0
  go_loopw [3, 4, 5, 8] (fun v s x i wr => ∃ k : Nat, k ≤ n ∧ i = .int .i64 k ∧ Hid (posUp ls k = [] → v = .slice none 0 0) ∧ Hid (wr.ownsRow (w.heap.size + 1) 3 1 v (posUp ls k).length (nums .i64 (posUp ls k))) ∧ Hid (Below (w.heap.size + 1) w0 wr)) (fun _ _ _ i _ => n - (intOf i).toNat)
  case atStart => exact ⟨0, by omega, rfl, fun _ => rfl, own_nil _ _ _ _, Below.refl _ _⟩
  case round =>
    obtain ⟨k, hk, rfl, HE, HO, HB⟩ := hrel
    have hmk := posUp_le ls k
    have hbs := HB.out.size
    rw [HSZ.out] at hbs
    by_cases hlt : k < n
    · obtain ⟨ad, hA, hcell0⟩ := ReadsInt.at_ HRR.out (k : Int) (by omega) (by omega)
      have hcell1 := pw_cell_below HB0.out hcell0
      have hcell : wr.cell? (ad.add ((k : Int)).toNat) = some (.int .i64 (rd ls (k : Int))) := (HB.out.cell (by have := World.block_lt_of_cell? w0 _ hcell1; rw [HSZ.out] at this; exact this)).trans hcell1
      rw [Int.toNat_natCast, rd_ln] at hcell
      clear hcell0 hcell1
      have HA := Lib.hid hA
      by_cases hp : 0 < ln ls k
      · have HS := Lib.hid (posUp_hit ls k hp)
        subst hA
        go_wp2_with (at_builtin; refine print_append_num (w.heap.size + 1) rfl _ _ 25 3 .i64 8 rfl Tryd.underlying25 info_int (by decide) _ (posUp ls k) (k : Int) rfl rfl (by exact HO.out) HB.out hbs (by omega) ?_)
        intro v1 w1 hown hB1 hg hat
        have HO1 := Lib.hid hown; have HB1 := Lib.hid hB1
        clear hown hB1 hg hat
        go_wp2
        go_roundw
        case rel => exact ⟨k + 1, by omega, by go_num, fun h => by rw [HS.out] at h; simp at h, by show World.ownsRow _ _ _ _ _ _ _; rw [HS.out, List.length_append]; exact HO1.out, HB1.out⟩
        case measure => simp [intOf]; omega
      · have HS := Lib.hid (posUp_miss ls k hp)
        subst hA
        go_wp2_with fail
        go_roundw
        case rel => exact ⟨k + 1, by omega, by go_num, by show _ → _; rw [HS.out]; exact HE.out, by show World.ownsRow _ _ _ _ _ _ _; rw [HS.out]; exact HO.out, HB.out⟩
        case measure => simp [intOf]; omega
    · obtain rfl : k = n := by omega
      have hls := HL.out
      have hpl : posUp ls k = posList ls := by unfold posList; rw [hls]
      rw [hpl] at HO hmk HE
      clear hpl hlt
      have hbw : Below w.heap.size w wr := HB0.out.trans (HB.out.mono (by omega))
      have HBW := Lib.hid hbw
      clear hbw
      have hall := HO.out.2
      rcases hall with ⟨rfl, he⟩ | ⟨g, cap, cur, rfl, hg, hbk, h1, h2, h3, h4⟩
      · have hnil : posList ls = [] := List.length_eq_zero_iff.1 he
        have HN := Lib.hid hnil
        clear he hnil
        go_wp2_with fail
        refine (sortStableNil w.heap.size wr).mono ?_
        rintro e w' ⟨rfl, rfl⟩
        go_wp2_with fail
        go_ret
        exact ⟨HBW.out, _, [], rfl, by rw [InOrder, HN.out]; exact ⟨List.Pairwise.nil, fun _ => rfl⟩, own_nil _ _ _ _⟩
      · have hrow : RowI wr (w.heap.size + 1) g (posList ls).length cap (posList ls) := HO.out
        have hcm : CmpI wr w.heap.size A k c ls := ⟨by
            rw [HB.out.cell (p := ⟨w.heap.size, 0, none⟩) (by simp)]
            rw [cell_blk HBX.out]; rfl, (HRR.out.below HBW.out)⟩
        have hne : posList ls ≠ [] := fun h => by have := HE.out h; simp at this
        have hk0 : 0 < k := by
          rcases Nat.eq_zero_or_pos k with h | h
          · subst h; exact absurd (List.length_eq_zero_iff.1 (by omega)) hne
          · exact h
        have hA : ∀ ad, A = some ad → ad.block ≠ g := fun ad e he => by
          obtain ⟨ad', e', hc'⟩ := HRR.out.2.2 hk0
          rw [e] at e'
          obtain rfl : ad = ad' := by simpa using e'
          have h5 : ad.block < w.heap.size := World.block_lt_of_cell? w _ (hc' 0 hk0)
          omega
        have hgood : ∀ x ∈ posList ls, GoodI ls x := fun x hx => by
          obtain ⟨a1, a2, a3⟩ := posUp_mem hx
          have e : rd ls x = ln ls x.toNat := by obtain ⟨t, rfl⟩ := Int.eq_ofNat_of_zero_le a1; rw [rd_ln, Int.toNat_natCast]
          refine ⟨a1, by omega, by rw [e]; omega, ?_⟩
          rw [e]
          refine HV.out _ ?_
          unfold ln
          have : x.toNat < ls.length := by omega
          rw [List.getElem?_eq_getElem this]; exact List.getElem_mem _
        have HROW := Lib.hid hrow; have HCM := Lib.hid hcm; have HAA := Lib.hid hA; have HG := Lib.hid hgood
        clear hrow hcm hA hgood hne h1 h2 h3 h4 hbk
        have hg1 : w.heap.size ≠ g := by omega
        have HG1 := Lib.hid hg1
        have hx17 : (posList ls).length ≤ 140737488351232 := by omega
        clear hg1
        go_wp2_with fail
        refine (sortStableI _ _ _ _ _ _ _ _ _ _ _ hx17 HG1.out HAA.out HCM.out HG.out HROW.out).mono ?_
        rintro e w2 ⟨rfl, ⟨os, hs, hf, hr⟩, hM⟩
        have HS := Lib.hid hs; have HF := Lib.hid hf; have HR := Lib.hid hr; have HM := Lib.hid hM
        clear hs hf hr hM
        go_wp2_with fail
        go_ret
        have hk : ∀ l : List Int, (∀ x ∈ l, x ∈ posList ls) → ∀ x ∈ l, keyI ls x = keyL ls x := fun l hl x hx => keyI_keyL ls x (posUp_mem (hl x hx)).1
        have hmem : ∀ x ∈ os, x ∈ posList ls := fun x hx => (HF.out.mem x).2 hx
        exact ⟨Below.then_mods HBW.out (by omega) HM.out (by simp; omega), _, os, rfl, ⟨sorted_key (hk os hmem) HS.out, feq_key (hk _ (fun _ h => h)) (hk os hmem) HF.out⟩, by rw [HR.out.length]; exact HR.out⟩
end Go.Proofs.YtfeloicmkcfinaaDoor
