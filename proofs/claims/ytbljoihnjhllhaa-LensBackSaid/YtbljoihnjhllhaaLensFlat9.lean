/- What code.One, code.Order and code.Codes do. -/
import Derived.Test.YtbljoihnjhllhaaLensFlat6
import Derived.Test.YtbljoihnjhllhaaLensFlat2
import Derived.Test.YtbljoihnjhllhaaLensFlat8
import Derived.Test.YtbljoihnjhllhaaLensFlat5
namespace Go.Proofs.Ytbljoihnjhllhaa
open Go.RowKit
open Go.Proofs.YtbljoihnjhllhaaW.PrintWords
open Srt

abbrev hasV : Value := .func (.func 64) #[] #[]

set_option maxHeartbeats 400000 in
theorem has_any (x : Int) (w : World) : Calls Try.prog 64 #[.int .i64 x] w fun e w' => e = .returned (.bool (x != 0)) ∧ w = w' := by
  go_enter Try.func64, Try.ntmps64
  go_wp2
  go_ret
  exact ⟨rfl, rfl⟩

set_option maxHeartbeats 1000000 in
theorem indexNz (A : Option Addr) (n c : Nat) (ls : List Int) (w : World) (HR : ReadsInt w .i64 A n ls) (hn : n ≤ 17592186044416) :
    Calls Try.prog 65 #[.slice A n c, hasV] w fun e w' => e = .returned (.int .i64 (firstNz ls)) ∧ w = w' := by
  have HRR := Lib.hid HR; have HL := Lib.hid HR.1
  clear HR
  go_enter Try.func65, Try.ntmps65
  go_wp2
  go_loop [5, 8] (fun v i => ∃ k : Nat, k ≤ n ∧ i = .int .i64 k ∧ Hid (nzUp ls k = [])) (fun _ i => n - (intOf i).toNat)
  case atStart => exact ⟨0, Nat.zero_le _, rfl, rfl⟩
  case round =>
    obtain ⟨k, hk, rfl, HN⟩ := hrel
    by_cases hlt : k < n
    · obtain ⟨ad, hA, hcell⟩ := ReadsInt.at_ HRR.out (k : Int) (by omega) (by omega)
      rw [Int.toNat_natCast, rd_ln] at hcell
      subst hA
      have hkl : k < ls.length := by have := HL.out; omega
      by_cases hz : ln ls k = 0
      · have hzb : (ln ls k != 0) = false := by simp [hz]
        have HS := Lib.hid (nzUp_miss ls k hz)
        clear hz
        go_wp2_with (go_at_call 64; refine (has_any _ _).mono ?_; rintro e w' ⟨rfl, rfl⟩)
        go_round
        case rel => exact ⟨k + 1, by omega, by go_num, by show _ = _; rw [HS.out, HN.out]⟩
        case measure => simp [intOf]; omega
      · have hzb : (ln ls k != 0) = true := by simp [hz]
        have HF := Lib.hid (firstNz_some hkl HN.out hz).1
        clear hz
        go_wp2_with (go_at_call 64; refine (has_any _ _).mono ?_; rintro e w' ⟨rfl, rfl⟩)
        go_ret
        exact ⟨by rw [HF.out]; rfl, rfl⟩
    · have hkn : k = ls.length := by have := HL.out; omega
      have HF := Lib.hid (firstNz_none (by rw [← hkn]; exact HN.out))
      clear hkn
      go_wp2
      go_ret
      exact ⟨by rw [HF.out]; rfl, rfl⟩

set_option maxHeartbeats 400000 in
theorem containsNz (A : Option Addr) (n c : Nat) (ls : List Int) (b : Bool) (w : World) (HR : ReadsInt w .i64 A n ls) (hn : n ≤ 17592186044416) (hb : Hid (decide (0 ≤ firstNz ls) = b)) :
    Calls Try.prog 66 #[.slice A n c, hasV] w fun e w' => e = .returned (.bool b) ∧ w = w' := by
  have HRR := Lib.hid HR
  clear HR
  obtain ⟨f, HF⟩ : ∃ f, Hid (firstNz ls = f) := ⟨_, rfl⟩
  have hd : decide (0 ≤ f) = b := by rw [← HF.out]; exact hb.out
  go_enter Try.func66, Try.ntmps66
  go_wp2_with (go_at_call 65; refine (indexNz A n c ls w HRR.out hn).mono ?_; rintro e w' ⟨rfl, rfl⟩; rw [HF.out])
  go_ret
  exact ⟨rfl, rfl⟩

set_option maxHeartbeats 1000000 in
theorem one_any (A : Option Addr) (n c : Nat) (ls : List Int) (w : World) (HR : ReadsInt w .i64 A n ls) (hn : n ≤ 17592186044416) (hc : n ≤ c) :
    Calls Try.prog 53 #[.slice A n c] w fun e w' => e = .returned (.tuple #[.int .i64 (oneS ls).1, .bool (oneS ls).2]) ∧ w = w' := by
  have HRR := Lib.hid HR; have HL := Lib.hid HR.1
  clear HR
  by_cases hz : nonzero ls = []
  · have HF := Lib.hid (firstNz_none hz)
    have HO := Lib.hid (show oneS ls = (0, false) from by unfold oneS; rw [hz]; rfl)
    clear hz
    go_enter Try.func53, Try.ntmps53
    go_wp2_with (go_at_call 65; refine (indexNz A n c ls w HRR.out hn).mono ?_; rintro e w' ⟨rfl, rfl⟩; rw [HF.out])
    go_ret2
    exact ⟨by rw [HO.out]; rfl, rfl⟩
  · have hex : ∃ k, k < n ∧ nzUp ls k = [] ∧ ln ls k ≠ 0 := by
      have hl := HL.out
      have : ∀ m, m ≤ ls.length → nzUp ls m ≠ [] → ∃ k, k < m ∧ nzUp ls k = [] ∧ ln ls k ≠ 0 := by
        intro m
        induction m with
        | zero => intro _ h; exact absurd rfl h
        | succ m ih =>
          intro hm h
          by_cases h0 : nzUp ls m = []
          · refine ⟨m, by omega, h0, fun hc => h ?_⟩
            rw [nzUp_miss ls m hc, h0]
          · obtain ⟨k, h1, h2⟩ := ih (by omega) h0
            exact ⟨k, by omega, h2⟩
      obtain ⟨k, h1, h2⟩ := this ls.length (Nat.le_refl _) hz
      exact ⟨k, by omega, h2⟩
    obtain ⟨k, hk, h0, h1⟩ := hex
    obtain ⟨e1, e2⟩ := firstNz_some (by have := HL.out; omega) h0 h1
    have HF := Lib.hid e1; have HE := Lib.hid e2
    clear hz h0 h1 e1 e2
    obtain ⟨i0, hi, hz0, hz1, hz2⟩ := info_parts info_int
    obtain ⟨A1, hcut, hA1⟩ := print_cut (P := Try.prog) 22 3 .i64 Try.underlying22 hi hz1 A n c (k + 1) (by omega)
    have HR1 := Lib.hid (hA1 w .i64 ls hc HRR.out)
    clear hi hz0 hz1 hz2 hA1
    have hcut' : ∀ W : World, (Instr.slice 22 (.slice A n c) (some (.int .i64 ((k : Int) + 1))) none none).run Try.prog W = .ok (.slice A1 (n - (k + 1)) (c - (k + 1))) W := hcut
    clear hcut
    have HD : Hid (ls.drop (k + 1) = ls.drop (k + 1)) := rfl
    generalize hd : ls.drop (k + 1) = ds at *
    by_cases hs : nonzero ds = []
    · have HB := Lib.hid (show decide (0 ≤ firstNz ds) = false from by rw [firstNz_none hs]; rfl)
      have HO := Lib.hid (show oneS ls = ((k : Int), true) from by unfold oneS; rw [HE.out, hs]; rfl)
      clear hs
      go_enter Try.func53, Try.ntmps53
      go_wp2_with (first | (go_at_call 65; refine (indexNz A n c ls w HRR.out hn).mono ?_; rintro e w' ⟨rfl, rfl⟩; rw [HF.out]) | (go_at_call 66; refine (containsNz A1 _ _ ds false _ HR1.out (by omega) HB).mono ?_; rintro e w' ⟨rfl, rfl⟩))
      go_ret2
      exact ⟨by rw [HO.out]; rfl, rfl⟩
    · have HB := Lib.hid (show decide (0 ≤ firstNz ds) = true from by have := mt firstNz_neg.1 hs; simp; omega)
      have HO := Lib.hid (show oneS ls = (0, false) from by
        unfold oneS; rw [HE.out]
        cases h : nonzero ds with
        | nil => exact absurd h hs
        | cons x t => rfl)
      clear hs
      go_enter Try.func53, Try.ntmps53
      go_wp2_with (first | (go_at_call 65; refine (indexNz A n c ls w HRR.out hn).mono ?_; rintro e w' ⟨rfl, rfl⟩; rw [HF.out]) | (go_at_call 66; refine (containsNz A1 _ _ ds true _ HR1.out (by omega) HB).mono ?_; rintro e w' ⟨rfl, rfl⟩))
      go_ret2
      exact ⟨by rw [HO.out]; rfl, rfl⟩

theorem keyI_keyL (ls : List Int) (x : Int) (h : 0 ≤ x) : keyI ls x = keyL ls x := by
  obtain ⟨k, rfl⟩ := Int.eq_ofNat_of_zero_le h
  unfold keyI keyL
  rw [rd_ln, Int.toNat_natCast]
theorem sorted_key {f g : Int → Int} {l : List Int} (h : ∀ x ∈ l, f x = g x) (hs : Sorted f l) : Sorted g l := by
  refine List.Pairwise.imp_of_mem ?_ hs
  intro a b ha hb hab
  rw [← h a ha, ← h b hb]; exact hab
theorem feq_key {f g : Int → Int} {a b : List Int} (ha : ∀ x ∈ a, f x = g x) (hb : ∀ x ∈ b, f x = g x) (h : FEq f a b) : FEq g a b := fun k => by
  have e : ∀ l : List Int, (∀ x ∈ l, f x = g x) → l.filter (fun x => g x == k) = l.filter (fun x => f x == k) := fun l hl => by
    apply List.filter_congr
    intro x hx
    rw [hl x hx]
  rw [e a ha, e b hb]; exact h k

set_option maxHeartbeats 400000 in
theorem insertionNil (B : Nat) (w : World) :
    Calls Try.prog 57 #[.slice none 0 0, .int .i64 0, .int .i64 0, cmpI B] w fun e w' => e = .returned (.tuple #[]) ∧ w = w' := by
  go_enter Try.func57, Try.ntmps57
  go_wp2_with fail
  go_loop [8, 9] (fun x y => x = .int .i64 1) (fun _ _ => 0)
  case atStart => exact rfl
  case round =>
    obtain rfl := hrel
    go_wp2_with fail
    go_end0
    exact ⟨rfl, rfl⟩
set_option maxHeartbeats 400000 in
theorem stableNil (B : Nat) (w : World) :
    Calls Try.prog 46 #[.slice none 0 0, .int .i64 0, cmpI B] w fun e w' => e = .returned (.tuple #[]) ∧ w = w' := by
  go_enter Try.func46, Try.ntmps46
  go_wp2_with fail
  go_loop [7, 8] (fun x y => x = .int .i64 0 ∧ y = .int .i64 20) (fun _ _ => 0)
  case atStart => exact ⟨rfl, rfl⟩
  case round =>
    obtain ⟨rfl, rfl⟩ := hrel
    go_wp2_with fail
    refine (insertionNil B w).mono ?_
    rintro e w' ⟨rfl, rfl⟩
    go_wp2_with fail
    go_loop [6, 7, 8, 9] (fun x y z v => x = .int .i64 20) (fun _ _ _ _ => 0)
    case atStart => exact rfl
    case round =>
      obtain rfl := hrel
      go_wp2_with fail
      go_end0
      exact ⟨rfl, rfl⟩
set_option maxHeartbeats 400000 in
theorem sortStableNil (B : Nat) (w : World) :
    Calls Try.prog 32 #[.slice none 0 0, cmpI B] w fun e w' => e = .returned (.tuple #[]) ∧ w = w' := by
  go_enter Try.func32, Try.ntmps32
  go_wp2_with fail
  refine (stableNil B w).mono ?_
  rintro e w' ⟨rfl, rfl⟩
  go_wp2_with fail
  go_end0
  exact ⟨rfl, rfl⟩

/-- What code.Order answers. -/
def OrderPost (ls : List Int) (w : World) (e : Ending) (w' : World) : Prop :=
  Below w.heap.size w w' ∧ ∃ v os, e = .returned v ∧ InOrder ls os ∧ w'.ownsRow (w.heap.size + 1) 3 1 v os.length (nums .i64 os)

set_option maxHeartbeats 2000000 in
theorem order_any (A : Option Addr) (n c : Nat) (ls : List Int) (w : World) (HR : ReadsInt w .i64 A n ls) (hn : n ≤ 17592186044416) (hv : ∀ x ∈ ls, x ≤ 9223372036854775807) :
    Calls Try.prog 17 #[.slice A n c] w (OrderPost ls w) := by
  have HRR := Lib.hid HR; have HL := Lib.hid HR.1; have HV := Lib.hid hv
  clear HR hv
  go_enter Try.func17, Try.ntmps17
  go_wp2_with fail
  have hB0 := (Below.refl w.heap.size w).alloc (Nat.le_refl _) (.cells #[.slice A n c] 22)
  have hBx : (w.alloc (.cells #[.slice A n c] 22)).heap[w.heap.size]? = some (.cells #[.slice A n c] 22 (0, 0)) := blk_alloc _
  have hsz : (w.alloc (.cells #[.slice A n c] 22)).heap.size = w.heap.size + 1 := by simp
  generalize hw0 : w.alloc (.cells #[.slice A n c] 22) = w0 at *
  have HB0 := Lib.hid hB0; have HBX := Lib.hid hBx; have HSZ := Lib.hid hsz; have HW0 := Lib.hid hw0
  clear hB0 hBx hsz hw0
  go_loopw [3, 4, 5, 8] (fun v s x i wr => ∃ k : Nat, k ≤ n ∧ i = .int .i64 k ∧ Hid (posUp ls k = [] → v = .slice none 0 0) ∧ Hid (wr.ownsRow (w.heap.size + 1) 3 1 v (posUp ls k).length (nums .i64 (posUp ls k))) ∧ Hid (Below (w.heap.size + 1) w0 wr)) (fun _ _ _ i _ => n - (intOf i).toNat)
  case atStart => exact ⟨0, by omega, rfl, fun _ => rfl, own_nil _ _ _ _, Below.refl _ _⟩
  case round =>
    obtain ⟨k, hk, rfl, HE, HO, HB⟩ := hrel
    have hmk := posUp_le ls k
    have hbs := HB.out.size
    rw [HSZ.out] at hbs
    by_cases hlt : k < n
    · obtain ⟨ad, hA, hcell0⟩ := ReadsInt.at_ HRR.out (k : Int) (by omega) (by omega)
      have hcell1 := pw_cell_below HB0.out hcell0
      have hcell : wr.cell? (ad.add ((k : Int)).toNat) = some (.int .i64 (rd ls (k : Int))) := (HB.out.cell (by have := World.block_lt_of_cell? w0 _ hcell1; rw [HSZ.out] at this; exact this)).trans hcell1
      rw [Int.toNat_natCast, rd_ln] at hcell
      clear hcell0 hcell1
      have HA := Lib.hid hA
      by_cases hp : 0 < ln ls k
      · have HS := Lib.hid (posUp_hit ls k hp)
        subst hA
        go_wp2_with (at_builtin; refine print_append_num (w.heap.size + 1) rfl _ _ 22 3 .i64 8 rfl Try.underlying22 info_int (by decide) _ (posUp ls k) (k : Int) rfl rfl (by exact HO.out) HB.out hbs (by omega) ?_)
        intro v1 w1 hown hB1 hg hat
        have HO1 := Lib.hid hown; have HB1 := Lib.hid hB1
        clear hown hB1 hg hat
        go_wp2
        go_roundw
        case rel => exact ⟨k + 1, by omega, by go_num, fun h => by rw [HS.out] at h; simp at h, by show World.ownsRow _ _ _ _ _ _ _; rw [HS.out, List.length_append]; exact HO1.out, HB1.out⟩
        case measure => simp [intOf]; omega
      · have HS := Lib.hid (posUp_miss ls k hp)
        subst hA
        go_wp2_with fail
        go_roundw
        case rel => exact ⟨k + 1, by omega, by go_num, by show _ → _; rw [HS.out]; exact HE.out, by show World.ownsRow _ _ _ _ _ _ _; rw [HS.out]; exact HO.out, HB.out⟩
        case measure => simp [intOf]; omega
    · obtain rfl : k = n := by omega
      have hls := HL.out
      have hpl : posUp ls k = posList ls := by unfold posList; rw [hls]
      rw [hpl] at HO hmk HE
      clear hpl hlt
      have hbw : Below w.heap.size w wr := HB0.out.trans (HB.out.mono (by omega))
      have HBW := Lib.hid hbw
      clear hbw
      have hall := HO.out.2
      rcases hall with ⟨rfl, he⟩ | ⟨g, cap, cur, rfl, hg, hbk, h1, h2, h3, h4⟩
      · have hnil : posList ls = [] := List.length_eq_zero_iff.1 he
        have HN := Lib.hid hnil
        clear he hnil
        go_wp2_with fail
        refine (sortStableNil w.heap.size wr).mono ?_
        rintro e w' ⟨rfl, rfl⟩
        go_wp2_with fail
        go_ret
        exact ⟨HBW.out, _, [], rfl, by rw [InOrder, HN.out]; exact ⟨List.Pairwise.nil, fun _ => rfl⟩, own_nil _ _ _ _⟩
      · have hrow : RowI wr (w.heap.size + 1) g (posList ls).length cap (posList ls) := HO.out
        have hcm : CmpI wr w.heap.size A k c ls := ⟨by
            rw [HB.out.cell (p := ⟨w.heap.size, 0, none⟩) (by simp)]
            rw [cell_blk HBX.out]; rfl, (HRR.out.below HBW.out)⟩
        have hne : posList ls ≠ [] := fun h => by have := HE.out h; simp at this
        have hk0 : 0 < k := by
          rcases Nat.eq_zero_or_pos k with h | h
          · subst h; exact absurd (List.length_eq_zero_iff.1 (by omega)) hne
          · exact h
        have hA : ∀ ad, A = some ad → ad.block ≠ g := fun ad e he => by
          obtain ⟨ad', e', hc'⟩ := HRR.out.2.2 hk0
          rw [e] at e'
          obtain rfl : ad = ad' := by simpa using e'
          have h5 : ad.block < w.heap.size := World.block_lt_of_cell? w _ (hc' 0 hk0)
          omega
        have hgood : ∀ x ∈ posList ls, GoodI ls x := fun x hx => by
          obtain ⟨a1, a2, a3⟩ := posUp_mem hx
          have e : rd ls x = ln ls x.toNat := by obtain ⟨t, rfl⟩ := Int.eq_ofNat_of_zero_le a1; rw [rd_ln, Int.toNat_natCast]
          refine ⟨a1, by omega, by rw [e]; omega, ?_⟩
          rw [e]
          refine HV.out _ ?_
          unfold ln
          have : x.toNat < ls.length := by omega
          rw [List.getElem?_eq_getElem this]; exact List.getElem_mem _
        have HROW := Lib.hid hrow; have HCM := Lib.hid hcm; have HAA := Lib.hid hA; have HG := Lib.hid hgood
        clear hrow hcm hA hgood hne h1 h2 h3 h4 hbk
        have hg1 : w.heap.size ≠ g := by omega
        have HG1 := Lib.hid hg1
        have hx17 : (posList ls).length ≤ 140737488351232 := by omega
        clear hg1
        go_wp2_with fail
        refine (sortStableI _ _ _ _ _ _ _ _ _ _ _ hx17 HG1.out HAA.out HCM.out HG.out HROW.out).mono ?_
        rintro e w2 ⟨rfl, ⟨os, hs, hf, hr⟩, hM⟩
        have HS := Lib.hid hs; have HF := Lib.hid hf; have HR := Lib.hid hr; have HM := Lib.hid hM
        clear hs hf hr hM
        go_wp2_with fail
        go_ret
        have hk : ∀ l : List Int, (∀ x ∈ l, x ∈ posList ls) → ∀ x ∈ l, keyI ls x = keyL ls x := fun l hl x hx => keyI_keyL ls x (posUp_mem (hl x hx)).1
        have hmem : ∀ x ∈ os, x ∈ posList ls := fun x hx => (HF.out.mem x).2 hx
        exact ⟨Below.then_mods HBW.out (by omega) HM.out (by simp; omega), _, os, rfl, ⟨sorted_key (hk os hmem) HS.out, feq_key (hk _ (fun _ h => h)) (hk os hmem) HF.out⟩, by rw [HR.out.length]; exact HR.out⟩
end Go.Proofs.Ytbljoihnjhllhaa

/- Lengths that are told by hand: what lens.(*source).num and simple do. -/
namespace Go.Proofs.Ytbljoihnjhllhaa
open Go.RowKit
open Go.Proofs.YtbljoihnjhllhaaW.PrintWords
open Srt

/-- Block S is a source over the Reader g, with an error. -/
structure Src (w : World) (S g : Nat) (A : Option Addr) (bs : List Int) (p : Nat) (e : Int) : Prop where
  blk : w.heap[S]? = some (.cells #[.pointer (some ⟨g, 0, none⟩), .int .i64 e] 61 (0, 0))
  ne : S ≠ g
  far : ∀ ad, A = some ad → ad.block ≠ S ∧ ad.block ≠ g
  rdr : Rdr w g A bs p false
theorem Src.mods {T : List Nat} {w w' : World} {S g : Nat} {A : Option Addr} {bs : List Int} {p : Nat} {e : Int} (h : Src w S g A bs p e) (hm : Mods T w w') (hS : S ∉ T) (hg : g ∉ T) (hA : ∀ ad, A = some ad → ad.block ∉ T) : Src w' S g A bs p e :=
  ⟨hm.blk h.blk hS, h.ne, h.far, h.rdr.mods hm hg hA⟩

set_option maxHeartbeats 400000 in
theorem num_src (v : Int) (S g : Nat) (A : Option Addr) (bs : List Int) (p k : Nat) (w : World) (hv : Hid (bitsVal bs p k = v)) (hp : p + k ≤ 8 * bs.length) (hk : 0 < k) (hk2 : k ≤ 32) (h : Src w S g A bs p 0) :
    Calls Try.prog 29 #[.pointer (some ⟨S, 0, none⟩), .int .i64 k] w fun e w' => e = .returned (.int .i64 v) ∧ Src w' S g A bs (p + k) 0 ∧ Mods [S, g] w w' := by
  have hv2 : 0 ≤ v ∧ v < 4294967296 := by
    rw [← hv.out]
    have h2 := bitsVal_lt bs p k
    have : (2 : Int) ^ k ≤ 2 ^ 32 := by exact_mod_cast Nat.pow_le_pow_right (by decide) hk2
    exact ⟨bitsVal_nonneg _ _ _, by omega⟩
  have HB := Lib.hid (bits_to v g A bs p k w hv hp hk hk2 h.rdr)
  have hc0 : w.cell? ⟨S, 0, none⟩ = some (.pointer (some ⟨g, 0, none⟩)) := by rw [cell_blk h.blk]; rfl
  have hc1 : w.cell? ⟨S, 1, none⟩ = some (.int .i64 0) := by rw [cell_blk h.blk]; rfl
  have H := Lib.hid h
  clear h
  go_enter Try.func29, Try.ntmps29
  go_wp2_with fail
  refine HB.out.mono ?_
  rintro e w1 ⟨rfl, hR, hM⟩
  have hb1 := hM.blk H.out.blk (by simpa using H.out.ne)
  have hd1 : w1.cell? ⟨S, 1, none⟩ = some (.int .i64 0) := by rw [cell_blk hb1]; rfl
  have hf1 := free_blk hb1 1
  have HM := Lib.hid hM; have HR := Lib.hid hR; have HB1 := Lib.hid hb1
  clear hM hR hb1 hc0 hc1
  go_wp2_with fail
  go_ret
  have hM2 : Mods [S] w1 (w1.setCell ⟨S, 1, none⟩ (.int .i64 0)) := (Mods.refl _ _).setCell (by simp) _
  refine ⟨rfl, ⟨by rw [blk_set HB1.out]; rfl, H.out.ne, H.out.far, HR.out.mods hM2 (by simpa using H.out.ne.symm) (fun ad h => by simpa using (H.out.far ad h).1)⟩, (HM.out.mono (by simp)).trans (hM2.mono (by simp))⟩

set_option maxHeartbeats 400000 in
theorem fail_src (S : Nat) (v : Value) (x : Int) (w : World) (h : w.heap[S]? = some (.cells #[v, .int .i64 0] 61 (0, 0))) :
    Calls Try.prog 41 #[.pointer (some ⟨S, 0, none⟩), .int .i64 x] w fun e w' => e = .returned (.tuple #[]) ∧ w' = w.setCell ⟨S, 1, none⟩ (.int .i64 x) := by
  have hc1 : w.cell? ⟨S, 1, none⟩ = some (.int .i64 0) := by rw [cell_blk h]; rfl
  have hf1 := free_blk h 1
  clear h
  go_enter Try.func41, Try.ntmps41
  go_wp2_with fail
  go_end0
  exact ⟨rfl, rfl⟩

theorem own_mods {T : List Nat} {w w' : World} {base G k c n sz : Nat} {e : TypeId} {xs : List Value} (h : w.ownsRow base e sz (.slice (some ⟨G, 0, none⟩) k c) n xs) (hm : Mods T w w') (hG : G ∉ T) : w'.ownsRow base e sz (.slice (some ⟨G, 0, none⟩) k c) n xs := own_move h (fun q hq => by
  have e : G = q := by simpa [Value.ownBlock] using hq
  subst e
  exact hm.block G (own_lt h G rfl) hG)

/-- Each of a list's numbers gets length 1, if it may. -/
def layS (out : List Int) : List Int → List Int × Bool
  | [] => (out, true)
  | x :: t => if x < out.length ∧ rd out x = 0 then layS (out.set x.toNat 1) t else (out, false)
theorem layS_length (xs out : List Int) : (layS out xs).1.length = out.length := by
  induction xs generalizing out with
  | nil => rfl
  | cons x t ih => unfold layS; split; rw [ih]; simp; rfl
def errS (ok : Bool) : Int := if ok then 0 else 3
def zeros (k : Nat) : List Int := List.replicate k 0
/-- The numbers that stand there. -/
def twoS (two : Bool) (a b : Int) : List Int := if two then [a, b] else [a]

theorem rd_drop {xs : List Int} {j : Nat} (h : j < xs.length) : xs.drop j = rd xs (j : Int) :: xs.drop (j + 1) := by
  rw [List.drop_eq_getElem_cons h]
  congr 1
  unfold rd; rw [Int.toNat_natCast, List.getD_eq_getElem?_getD, List.getElem?_eq_getElem h]; rfl
theorem rd_mem {xs : List Int} {j : Nat} (h : j < xs.length) : rd xs (j : Int) ∈ xs := by
  unfold rd; rw [Int.toNat_natCast, List.getD_eq_getElem?_getD, List.getElem?_eq_getElem h]; exact List.getElem_mem _

/-- What the rounds over the list know. -/
structure Lay (w wr : World) (S g G base k : Nat) (two : Bool) (a b : Int) (AL : Option Addr) (n j : Nat) (out : List Int) : Prop where
  fin : layS (zeros k) (twoS two a b) = layS out ((twoS two a b).drop j)
  len : out.length = k
  own : wr.ownsRow base 3 1 (.slice (some ⟨G, 0, none⟩) k k) k (nums .i64 out)
  blk : wr.heap[S]? = some (.cells #[.pointer (some ⟨g, 0, none⟩), .int .i64 0] 61 (0, 0))
  reads : ReadsInt wr .i64 AL n (twoS two a b)
  mods : Mods [S, g, G] w wr

set_option maxHeartbeats 2000000 in
theorem simple_any (two : Bool) (S g G base : Nat) (A : Option Addr) (bs : List Int) (p k : Nat) (a b : Int) (w : World) (h : Src w S g A bs p 0)
    (ht : bitsVal bs p 1 = if two then 1 else 0) (hw : bitsVal bs (p + 1) 1 = 1) (ha : bitsVal bs (p + 1 + 1) 8 = a) (hb : two = true → bitsVal bs (p + 1 + 1 + 8) 8 = b) (hl : p + 10 + (if two then 8 else 0) ≤ 8 * bs.length) (hbb : 0 ≤ b ∧ b < 256)
    (hG : G ≠ S ∧ G ≠ g ∧ ∀ ad, A = some ad → ad.block ≠ G) (hGw : G < w.heap.size) (hO : w.ownsRow base 3 1 (.slice (some ⟨G, 0, none⟩) k k) k (nums .i64 (zeros k))) (_hk : k ≤ 4096) :
    Calls Try.prog 30 #[.pointer (some ⟨S, 0, none⟩), .slice (some ⟨G, 0, none⟩) k k] w fun e w' => e = .returned (.tuple #[]) ∧ w'.ownsRow base 3 1 (.slice (some ⟨G, 0, none⟩) k k) k (nums .i64 (layS (zeros k) (twoS two a b)).1) ∧
      w'.heap[S]? = some (.cells #[.pointer (some ⟨g, 0, none⟩), .int .i64 (errS (layS (zeros k) (twoS two a b)).2)] 61 (0, 0)) ∧ Mods [S, g, G] w w' := by
  have hab : 0 ≤ a ∧ a < 256 := by rw [← ha]; exact ⟨bitsVal_nonneg _ _ _, bitsVal_lt _ _ 8⟩
  have HW := Lib.hid hw; have HA := Lib.hid ha; have H := Lib.hid h; have HO := Lib.hid hO; have HG := Lib.hid hG
  have hSw : S < w.heap.size := blk_lt h.blk
  have hgw : g < w.heap.size := h.rdr.lt
  have hbnd : Hid (∀ x ∈ twoS two a b, 0 ≤ x ∧ x < 256) := Lib.hid (show ∀ x ∈ twoS two a b, 0 ≤ x ∧ x < 256 from by
    intro x hx
    unfold twoS at hx
    split at hx
    · simp at hx; rcases hx with rfl | rfl <;> assumption
    · simp at hx; subst hx; exact hab)
  clear hw ha h hO hG
  cases two
  all_goals
    simp only [Bool.false_eq_true, if_true, if_false] at ht hl
    have HT := Lib.hid ht; clear ht
    go_enter Try.func30, Try.ntmps30
    go_wp2_with fail
    refine (num_src _ S g A bs p 1 w HT (by omega) (by omega) (by omega) H.out).mono ?_
    rintro e w1 ⟨rfl, hS1, hM1⟩
    have H1 := Lib.hid hS1; have HM1 := Lib.hid hM1; clear hS1 hM1
    go_wp2_with fail
    refine (num_src 1 S g A bs (p + 1) 1 w1 HW (by omega) (by omega) (by omega) H1.out).mono ?_
    rintro e w2 ⟨rfl, hS2, hM2⟩
    have H2 := Lib.hid hS2; have HM2 := Lib.hid (HM1.out.trans hM2); clear hS2 hM2
    go_wp2_with fail
    refine (num_src a S g A bs (p + 1 + 1) 8 w2 HA (by omega) (by omega) (by omega) H2.out).mono ?_
    rintro e w3 ⟨rfl, hS3, hM3⟩
    have H3 := Lib.hid hS3; have HM3 := Lib.hid (HM2.out.trans hM3); clear hS3 hM3
    have hz3 := HM3.out.size
    have hO3 := Lib.hid (own_lit w3 (w3.heap.size) 3 .i64 [a] (Nat.le_refl _) (by simp))
    go_wp2_with fail
  · have hm4 : Mods [S, g, G] w3 (w3.alloc (.cells #[.int .i64 a] 3)) := (Mods.refl _ _).alloc _
    obtain ⟨wL, hwL⟩ : ∃ wL, w3.alloc (.cells #[.int .i64 a] 3) = wL := ⟨_, rfl⟩
    have hr3 := hO3.out
    obtain ⟨A1, c1, he1, hr4⟩ := own_reads hr3
    cases he1
    obtain ⟨AL, hAL⟩ : ∃ AL : Option Addr, AL = some ⟨w3.heap.size, 0, none⟩ := ⟨_, rfl⟩
    have hm5 : Mods [S, g, G] w wL := by rw [← hwL]; exact (HM3.out.mono (by simp)).trans hm4
    have HML := Lib.hid hm5
    have HLB := Lib.hid (show ∀ ad, AL = some ad → w.heap.size ≤ ad.block from fun ad h => by rw [hAL] at h; cases h; exact hz3)
    have HRL := Lib.hid (show ReadsInt wL .i64 AL 1 (twoS false a b) from by rw [← hwL, hAL]; exact hr4)
    have HBL := Lib.hid (show wL.heap[S]? = some (.cells #[.pointer (some ⟨g, 0, none⟩), .int .i64 0] 61 (0, 0)) from by rw [← hwL]; exact (show Mods [] w3 (w3.alloc (.cells #[.int .i64 a] 3)) from (Mods.refl _ _).alloc _).blk H3.out.blk (by simp))
    have HOL := Lib.hid (show wL.ownsRow base 3 1 (.slice (some ⟨G, 0, none⟩) k k) k (nums .i64 (zeros k)) from own_move HO.out (fun q hq => by
      have e : G = q := by simpa [Value.ownBlock] using hq
      subst e
      rw [← hwL]
      exact (HM3.out.trans ((Mods.refl _ _).alloc _)).block G hGw (by have := HG.out; simp; exact ⟨this.1, this.2.1⟩)))
    rw [hwL, ← hAL]
    clear hm4 hwL hr3 hr4 hAL hm5 hO3
    obtain ⟨wo, hwo⟩ : ∃ wo : World, wo = wL := ⟨_, rfl⟩
    subst hwo
    go_loopw [9, 29] (fun x y wr => ∃ (j : Nat) (out : List Int), y = .int .i64 j ∧ j ≤ 1 ∧ Hid (Lay w wr S g G base k false a b AL 1 j out)) (fun x y _ => 1 - (intOf y).toNat)
    case atStart => exact ⟨0, zeros k, rfl, by omega, ⟨rfl, by simp [zeros], HOL.out, HBL.out, HRL.out, HML.out⟩⟩
    case round =>
      obtain ⟨j, out, rfl, hj, HLay⟩ := hrel
      have hxl : Hid ((twoS false a b).length = 1) := HRL.out.1
      by_cases hlt : j < 1
      · obtain ⟨x, hx⟩ : ∃ x, rd (twoS false a b) (j : Int) = x := ⟨_, rfl⟩
        have hxb : 0 ≤ x ∧ x < 256 := by rw [← hx]; exact hbnd.out _ (rd_mem (by rw [hxl.out]; omega))
        obtain ⟨ad, hA, hcell⟩ := ReadsInt.at_ HLay.out.reads (j : Int) (by omega) (by omega)
        rw [Int.toNat_natCast, hx] at hcell
        have hAL := HLB.out ad hA
        subst hA
        have hdrop := Lib.hid (rd_drop (xs := twoS false a b) (j := j) (by rw [hxl.out]; omega))
        have HX := Lib.hid hx
        have hb1 := HLay.out.blk
        have hs0 : wr.cell? ⟨S, 0, none⟩ = some (.pointer (some ⟨g, 0, none⟩)) := by rw [cell_blk hb1]; rfl
        have hs1 : wr.cell? ⟨S, 1, none⟩ = some (.int .i64 0) := by rw [cell_blk hb1]; rfl
        have hsf := free_blk hb1 1
        have hol := Lib.hid HLay.out.len
        have hlay : Hid (layS (zeros k) (twoS false a b) = if x < out.length ∧ rd out x = 0 then layS (out.set x.toNat 1) ((twoS false a b).drop (j + 1)) else (out, false)) := Lib.hid (by rw [HLay.out.fin, hdrop.out, HX.out]; rfl)
        clear hx hb1
        obtain ⟨xn, rfl⟩ := Int.eq_ofNat_of_zero_le hxb.1
        rw [Int.toNat_natCast] at hlay
        by_cases hxk : xn < k
        · obtain ⟨hc1, hf1⟩ := own_at HLay.out.own (xn : Int) (by omega) (by omega)
          rw [Int.toNat_natCast] at hc1 hf1
          by_cases hz : rd out (xn : Int) = 0
          · have hzb : (rd out (xn : Int) != 0) = false := by simp [hz]
            have HN := Lib.hid (show layS (zeros k) (twoS false a b) = layS (out.set xn 1) ((twoS false a b).drop (j + 1)) from by rw [hlay.out, if_pos ⟨by rw [hol.out]; omega, hz⟩])
            clear hz
            generalize rd out (xn : Int) = z at *
            go_wp2_with fail
            go_roundw
            case rel =>
              have hm : Mods [S, g, G] wr (wr.setCell ⟨G, xn, none⟩ (.int .i64 1)) := (Mods.refl _ _).setCell (by simp) _
              have ho := (own_store HLay.out.own (xn : Int) 1).1
              rw [Int.toNat_natCast] at ho
              first | exact ⟨j + 1, out.set xn 1, by go_num, by omega, ⟨HN.out, by rw [List.length_set]; exact hol.out, ho, by rw [(show Mods [G] wr (wr.setCell ⟨G, xn, none⟩ (.int .i64 1)) from (Mods.refl _ _).setCell (by simp) _).blk HLay.out.blk (by simpa using HG.out.1.symm)], ReadsInt.mods HLay.out.reads hm (fun ad h => by have := HLB.out ad h; simp; omega), HLay.out.mods.trans hm⟩⟩ | ((repeat apply Exists.intro); exact ⟨⟨j + 1, out.set xn 1, by go_num, by omega, ⟨HN.out, by rw [List.length_set]; exact hol.out, ho, by rw [(show Mods [G] wr (wr.setCell ⟨G, xn, none⟩ (.int .i64 1)) from (Mods.refl _ _).setCell (by simp) _).blk HLay.out.blk (by simpa using HG.out.1.symm)], ReadsInt.mods HLay.out.reads hm (fun ad h => by have := HLB.out ad h; simp; omega), HLay.out.mods.trans hm⟩⟩, rfl⟩)
            case measure => simp [intOf]; omega
          · have hzb : (rd out (xn : Int) != 0) = true := by simp [hz]
            have HN := Lib.hid (show layS (zeros k) (twoS false a b) = (out, false) from by rw [hlay.out, if_neg (fun h => hz h.2)])
            clear hz
            generalize rd out (xn : Int) = z at *
            have HB1 := Lib.hid HLay.out.blk
            go_wp2_with fail
            refine (fail_src S _ 3 wr HB1.out).mono ?_
            rintro e w' ⟨rfl, rfl⟩
            go_wp2_with fail
            refine bodyPost_ret (results_none rfl _ _ _) rfl ?_
            have hm : Mods [S] wr (wr.setCell ⟨S, 1, none⟩ (.int .i64 3)) := (Mods.refl _ _).setCell (by simp) _
            exact ⟨rfl, by rw [HN.out]; exact own_mods HLay.out.own hm (by simpa using HG.out.1), by rw [HN.out, blk_set HLay.out.blk]; rfl, HLay.out.mods.trans (hm.mono (by simp))⟩
        · have HN := Lib.hid (show layS (zeros k) (twoS false a b) = (out, false) from by rw [hlay.out, if_neg (fun h => hxk (by have := h.1; rw [hol.out] at this; omega))])
          have HB1 := Lib.hid HLay.out.blk
          go_wp2_with fail
          refine (fail_src S _ 3 wr HB1.out).mono ?_
          rintro e w' ⟨rfl, rfl⟩
          go_wp2_with fail
          refine bodyPost_ret (results_none rfl _ _ _) rfl ?_
          have hm : Mods [S] wr (wr.setCell ⟨S, 1, none⟩ (.int .i64 3)) := (Mods.refl _ _).setCell (by simp) _
          exact ⟨rfl, by rw [HN.out]; exact own_mods HLay.out.own hm (by simpa using HG.out.1), by rw [HN.out, blk_set HLay.out.blk]; rfl, HLay.out.mods.trans (hm.mono (by simp))⟩
      · have HN := Lib.hid (show layS (zeros k) (twoS false a b) = (out, true) from by rw [HLay.out.fin, List.drop_of_length_le (by rw [hxl.out]; omega)]; rfl)
        go_wp2_with fail
        go_end0
        exact ⟨rfl, by rw [HN.out]; exact HLay.out.own, by rw [HN.out]; exact HLay.out.blk, HLay.out.mods⟩
  · have hm4 : Mods [] w3 (w3.alloc (.cells #[.int .i64 a] 3)) := (Mods.refl _ _).alloc _
    have HS4 := Lib.hid (H3.out.mods hm4 (by simp) (by simp) (by simp))
    have HM4 := Lib.hid (HM3.out.trans (hm4.mono (by simp)))
    have HBV : Hid (bitsVal bs (p + 1 + 1 + 8) 8 = b) := by first | exact hb rfl | exact hb trivial
    clear hm4
    refine (num_src b S g A bs (p + 1 + 1 + 8) 8 _ HBV (by omega) (by omega) (by omega) HS4.out).mono ?_
    rintro e w5 ⟨rfl, hS5, hM5⟩
    have HS5 := Lib.hid hS5; have HM5 := Lib.hid (HM4.out.trans hM5)
    have HO5 := Lib.hid (own_mods hO3.out hM5 (by simp; constructor <;> omega))
    have hz5 : w3.heap.size ≤ w5.heap.size := by have := hM5.size; simp at this; omega
    clear hS5 hM5 hO3
    go_wp2_with (at_builtin; refine print_append_num w3.heap.size rfl _ _ 22 3 .i64 8 rfl Try.underlying22 info_int (by decide) (.slice (some ⟨w3.heap.size, 0, none⟩) 1 1) [a] b rfl rfl HO5.out (show Below w3.heap.size w5 w5 from Below.refl _ _) hz5 (by simp) ?_)
    intro v1 wL hown hB hg hat
    obtain ⟨A1, c1, rfl, hr1⟩ := own_reads hown
    have hat2 : ∀ ad, A1 = some ad → w.heap.size ≤ ad.block := fun ad h => by
      have := own_base hown ad.block (by rw [h]; rfl)
      omega
    have hmL : Mods [w3.heap.size] w5 wL := Mods.grown (Mods.refl _ _) hg (fun k hk => by simp [Value.ownBlock] at hk; simp [hk])
    have HML := Lib.hid (show Mods [S, g, G] w wL from Mods.trans_new (HM5.out.mono (by simp)) hmL (by simp; omega))
    have HLB := Lib.hid hat2
    have HRL := Lib.hid (show ReadsInt wL .i64 A1 2 (twoS true a b) from hr1)
    have HBL := Lib.hid (hmL.blk HS5.out.blk (by simp; omega))
    have HOL := Lib.hid (own_mods (own_mods HO.out HM5.out (by have := HG.out; simp; exact ⟨this.1, this.2.1⟩)) hmL (by simp; omega))
    clear hown hB hg hat hr1 hat2 hmL HO5 HM5 HS5 HM4 HS4
    obtain ⟨AL, hAL⟩ : ∃ AL : Option Addr, AL = A1 := ⟨_, rfl⟩
    subst hAL
    go_wp2_with fail
    obtain ⟨wo, hwo⟩ : ∃ wo : World, wo = wL := ⟨_, rfl⟩
    subst hwo
    go_loopw [9, 29] (fun x y wr => ∃ (j : Nat) (out : List Int), y = .int .i64 j ∧ j ≤ 2 ∧ Hid (Lay w wr S g G base k true a b AL 2 j out)) (fun x y _ => 2 - (intOf y).toNat)
    case atStart => exact ⟨0, zeros k, rfl, by omega, ⟨rfl, by simp [zeros], HOL.out, HBL.out, HRL.out, HML.out⟩⟩
    case round =>
      obtain ⟨j, out, rfl, hj, HLay⟩ := hrel
      have hxl : Hid ((twoS true a b).length = 2) := HRL.out.1
      by_cases hlt : j < 2
      · obtain ⟨x, hx⟩ : ∃ x, rd (twoS true a b) (j : Int) = x := ⟨_, rfl⟩
        have hxb : 0 ≤ x ∧ x < 256 := by rw [← hx]; exact hbnd.out _ (rd_mem (by rw [hxl.out]; omega))
        obtain ⟨ad, hA, hcell⟩ := ReadsInt.at_ HLay.out.reads (j : Int) (by omega) (by omega)
        rw [Int.toNat_natCast, hx] at hcell
        have hAL := HLB.out ad hA
        subst hA
        have hdrop := Lib.hid (rd_drop (xs := twoS true a b) (j := j) (by rw [hxl.out]; omega))
        have HX := Lib.hid hx
        have hb1 := HLay.out.blk
        have hs0 : wr.cell? ⟨S, 0, none⟩ = some (.pointer (some ⟨g, 0, none⟩)) := by rw [cell_blk hb1]; rfl
        have hs1 : wr.cell? ⟨S, 1, none⟩ = some (.int .i64 0) := by rw [cell_blk hb1]; rfl
        have hsf := free_blk hb1 1
        have hol := Lib.hid HLay.out.len
        have hlay : Hid (layS (zeros k) (twoS true a b) = if x < out.length ∧ rd out x = 0 then layS (out.set x.toNat 1) ((twoS true a b).drop (j + 1)) else (out, false)) := Lib.hid (by rw [HLay.out.fin, hdrop.out, HX.out]; rfl)
        clear hx hb1
        obtain ⟨xn, rfl⟩ := Int.eq_ofNat_of_zero_le hxb.1
        rw [Int.toNat_natCast] at hlay
        by_cases hxk : xn < k
        · obtain ⟨hc1, hf1⟩ := own_at HLay.out.own (xn : Int) (by omega) (by omega)
          rw [Int.toNat_natCast] at hc1 hf1
          by_cases hz : rd out (xn : Int) = 0
          · have hzb : (rd out (xn : Int) != 0) = false := by simp [hz]
            have HN := Lib.hid (show layS (zeros k) (twoS true a b) = layS (out.set xn 1) ((twoS true a b).drop (j + 1)) from by rw [hlay.out, if_pos ⟨by rw [hol.out]; omega, hz⟩])
            clear hz
            generalize rd out (xn : Int) = z at *
            go_wp2_with fail
            go_roundw
            case rel =>
              have hm : Mods [S, g, G] wr (wr.setCell ⟨G, xn, none⟩ (.int .i64 1)) := (Mods.refl _ _).setCell (by simp) _
              have ho := (own_store HLay.out.own (xn : Int) 1).1
              rw [Int.toNat_natCast] at ho
              first | exact ⟨j + 1, out.set xn 1, by go_num, by omega, ⟨HN.out, by rw [List.length_set]; exact hol.out, ho, by rw [(show Mods [G] wr (wr.setCell ⟨G, xn, none⟩ (.int .i64 1)) from (Mods.refl _ _).setCell (by simp) _).blk HLay.out.blk (by simpa using HG.out.1.symm)], ReadsInt.mods HLay.out.reads hm (fun ad h => by have := HLB.out ad h; simp; omega), HLay.out.mods.trans hm⟩⟩ | ((repeat apply Exists.intro); exact ⟨⟨j + 1, out.set xn 1, by go_num, by omega, ⟨HN.out, by rw [List.length_set]; exact hol.out, ho, by rw [(show Mods [G] wr (wr.setCell ⟨G, xn, none⟩ (.int .i64 1)) from (Mods.refl _ _).setCell (by simp) _).blk HLay.out.blk (by simpa using HG.out.1.symm)], ReadsInt.mods HLay.out.reads hm (fun ad h => by have := HLB.out ad h; simp; omega), HLay.out.mods.trans hm⟩⟩, rfl⟩)
            case measure => simp [intOf]; omega
          · have hzb : (rd out (xn : Int) != 0) = true := by simp [hz]
            have HN := Lib.hid (show layS (zeros k) (twoS true a b) = (out, false) from by rw [hlay.out, if_neg (fun h => hz h.2)])
            clear hz
            generalize rd out (xn : Int) = z at *
            have HB1 := Lib.hid HLay.out.blk
            go_wp2_with fail
            refine (fail_src S _ 3 wr HB1.out).mono ?_
            rintro e w' ⟨rfl, rfl⟩
            go_wp2_with fail
            refine bodyPost_ret (results_none rfl _ _ _) rfl ?_
            have hm : Mods [S] wr (wr.setCell ⟨S, 1, none⟩ (.int .i64 3)) := (Mods.refl _ _).setCell (by simp) _
            exact ⟨rfl, by rw [HN.out]; exact own_mods HLay.out.own hm (by simpa using HG.out.1), by rw [HN.out, blk_set HLay.out.blk]; rfl, HLay.out.mods.trans (hm.mono (by simp))⟩
        · have HN := Lib.hid (show layS (zeros k) (twoS true a b) = (out, false) from by rw [hlay.out, if_neg (fun h => hxk (by have := h.1; rw [hol.out] at this; omega))])
          have HB1 := Lib.hid HLay.out.blk
          go_wp2_with fail
          refine (fail_src S _ 3 wr HB1.out).mono ?_
          rintro e w' ⟨rfl, rfl⟩
          go_wp2_with fail
          refine bodyPost_ret (results_none rfl _ _ _) rfl ?_
          have hm : Mods [S] wr (wr.setCell ⟨S, 1, none⟩ (.int .i64 3)) := (Mods.refl _ _).setCell (by simp) _
          exact ⟨rfl, by rw [HN.out]; exact own_mods HLay.out.own hm (by simpa using HG.out.1), by rw [HN.out, blk_set HLay.out.blk]; rfl, HLay.out.mods.trans (hm.mono (by simp))⟩
      · have HN := Lib.hid (show layS (zeros k) (twoS true a b) = (out, true) from by rw [HLay.out.fin, List.drop_of_length_le (by rw [hxl.out]; omega)]; rfl)
        go_wp2_with fail
        go_end0
        exact ⟨rfl, by rw [HN.out]; exact HLay.out.own, by rw [HN.out]; exact HLay.out.blk, HLay.out.mods⟩
end Go.Proofs.Ytbljoihnjhllhaa
