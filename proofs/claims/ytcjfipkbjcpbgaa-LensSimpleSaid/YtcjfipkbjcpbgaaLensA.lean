/- Lengths that are told by hand: what lens.(*source).num and simple do. -/
import Derived.Test.YtcjfipkbjcpbgaaBitout
import Derived.Test.YtcjfipkbjcpbgaaBitin
import Derived.Test.YtcjfipkbjcpbgaaCode2
namespace Go.Proofs.Ytcjfipkbjcpbgaa
open Go.RowKit
open Go.Proofs.YtcjfipkbjcpbgaaW.PrintWords
open Srt

/-- Block S is a source over the Reader g, with an error. -/
structure Src (w : World) (S g : Nat) (A : Option Addr) (bs : List Int) (p : Nat) (e : Int) : Prop where
  blk : w.heap[S]? = some (.cells #[.pointer (some ⟨g, 0, none⟩), .int .i64 e] 57 (0, 0))
  ne : S ≠ g
  far : ∀ ad, A = some ad → ad.block ≠ S ∧ ad.block ≠ g
  rdr : Rdr w g A bs p false
theorem Src.mods {T : List Nat} {w w' : World} {S g : Nat} {A : Option Addr} {bs : List Int} {p : Nat} {e : Int} (h : Src w S g A bs p e) (hm : Mods T w w') (hS : S ∉ T) (hg : g ∉ T) (hA : ∀ ad, A = some ad → ad.block ∉ T) : Src w' S g A bs p e :=
  ⟨hm.blk h.blk hS, h.ne, h.far, h.rdr.mods hm hg hA⟩

set_option maxHeartbeats 400000 in
theorem num_src (v : Int) (S g : Nat) (A : Option Addr) (bs : List Int) (p k : Nat) (w : World) (hv : Hid (bitsVal bs p k = v)) (hp : p + k ≤ 8 * bs.length) (hk : 0 < k) (hk2 : k ≤ 32) (h : Src w S g A bs p 0) :
    Calls Try.prog 19 #[.pointer (some ⟨S, 0, none⟩), .int .i64 k] w fun e w' => e = .returned (.int .i64 v) ∧ Src w' S g A bs (p + k) 0 ∧ Mods [S, g] w w' := by
  have hv2 : 0 ≤ v ∧ v < 4294967296 := by
    rw [← hv.out]
    have h2 := bitsVal_lt bs p k
    have : (2 : Int) ^ k ≤ 2 ^ 32 := by exact_mod_cast Nat.pow_le_pow_right (by decide) hk2
    exact ⟨bitsVal_nonneg _ _ _, by omega⟩
  have HB := Lib.hid (bits_to v g A bs p k w hv hp hk hk2 h.rdr)
  have hc0 : w.cell? ⟨S, 0, none⟩ = some (.pointer (some ⟨g, 0, none⟩)) := by rw [cell_blk h.blk]; rfl
  have hc1 : w.cell? ⟨S, 1, none⟩ = some (.int .i64 0) := by rw [cell_blk h.blk]; rfl
  have H := Lib.hid h
  clear h
  go_enter Try.func19, Try.ntmps19
  go_wp2_with fail
  refine HB.out.mono ?_
  rintro e w1 ⟨rfl, hR, hM⟩
  have hb1 := hM.blk H.out.blk (by simpa using H.out.ne)
  have hd1 : w1.cell? ⟨S, 1, none⟩ = some (.int .i64 0) := by rw [cell_blk hb1]; rfl
  have hf1 := free_blk hb1 1
  have HM := Lib.hid hM; have HR := Lib.hid hR; have HB1 := Lib.hid hb1
  clear hM hR hb1 hc0 hc1
  go_wp2_with fail
  go_ret
  have hM2 : Mods [S] w1 (w1.setCell ⟨S, 1, none⟩ (.int .i64 0)) := (Mods.refl _ _).setCell (by simp) _
  refine ⟨rfl, ⟨by rw [blk_set HB1.out]; rfl, H.out.ne, H.out.far, HR.out.mods hM2 (by simpa using H.out.ne.symm) (fun ad h => by simpa using (H.out.far ad h).1)⟩, (HM.out.mono (by simp)).trans (hM2.mono (by simp))⟩

set_option maxHeartbeats 400000 in
theorem fail_src (S : Nat) (v : Value) (x : Int) (w : World) (h : w.heap[S]? = some (.cells #[v, .int .i64 0] 57 (0, 0))) :
    Calls Try.prog 33 #[.pointer (some ⟨S, 0, none⟩), .int .i64 x] w fun e w' => e = .returned (.tuple #[]) ∧ w' = w.setCell ⟨S, 1, none⟩ (.int .i64 x) := by
  have hc1 : w.cell? ⟨S, 1, none⟩ = some (.int .i64 0) := by rw [cell_blk h]; rfl
  have hf1 := free_blk h 1
  clear h
  go_enter Try.func33, Try.ntmps33
  go_wp2_with fail
  go_end0
  exact ⟨rfl, rfl⟩

theorem own_mods {T : List Nat} {w w' : World} {base G k c n sz : Nat} {e : TypeId} {xs : List Value} (h : w.ownsRow base e sz (.slice (some ⟨G, 0, none⟩) k c) n xs) (hm : Mods T w w') (hG : G ∉ T) : w'.ownsRow base e sz (.slice (some ⟨G, 0, none⟩) k c) n xs := own_move h (fun q hq => by
  have e : G = q := by simpa [Value.ownBlock] using hq
  subst e
  exact hm.block G (own_lt h G rfl) hG)

/-- Each of a list's numbers gets length 1, if it may. -/
def layS (out : List Int) : List Int → List Int × Bool
  | [] => (out, true)
  | x :: t => if x < out.length ∧ rd out x = 0 then layS (out.set x.toNat 1) t else (out, false)
theorem layS_length (xs out : List Int) : (layS out xs).1.length = out.length := by
  induction xs generalizing out with
  | nil => rfl
  | cons x t ih => unfold layS; split; rw [ih]; simp; rfl
def errS (ok : Bool) : Int := if ok then 0 else 3
def zeros (k : Nat) : List Int := List.replicate k 0
/-- The numbers that stand there. -/
def twoS (two : Bool) (a b : Int) : List Int := if two then [a, b] else [a]

theorem rd_drop {xs : List Int} {j : Nat} (h : j < xs.length) : xs.drop j = rd xs (j : Int) :: xs.drop (j + 1) := by
  rw [List.drop_eq_getElem_cons h]
  congr 1
  unfold rd; rw [Int.toNat_natCast, List.getD_eq_getElem?_getD, List.getElem?_eq_getElem h]; rfl
theorem rd_mem {xs : List Int} {j : Nat} (h : j < xs.length) : rd xs (j : Int) ∈ xs := by
  unfold rd; rw [Int.toNat_natCast, List.getD_eq_getElem?_getD, List.getElem?_eq_getElem h]; exact List.getElem_mem _

/-- What the rounds over the list know. -/
structure Lay (w wr : World) (S g G base k : Nat) (two : Bool) (a b : Int) (AL : Option Addr) (n j : Nat) (out : List Int) : Prop where
  fin : layS (zeros k) (twoS two a b) = layS out ((twoS two a b).drop j)
  len : out.length = k
  own : wr.ownsRow base 3 1 (.slice (some ⟨G, 0, none⟩) k k) k (nums .i64 out)
  blk : wr.heap[S]? = some (.cells #[.pointer (some ⟨g, 0, none⟩), .int .i64 0] 57 (0, 0))
  reads : ReadsInt wr .i64 AL n (twoS two a b)
  mods : Mods [S, g, G] w wr

set_option maxHeartbeats 2000000 in
theorem simple_any (two : Bool) (S g G base : Nat) (A : Option Addr) (bs : List Int) (p k : Nat) (a b : Int) (w : World) (h : Src w S g A bs p 0)
    (ht : bitsVal bs p 1 = if two then 1 else 0) (hw : bitsVal bs (p + 1) 1 = 1) (ha : bitsVal bs (p + 1 + 1) 8 = a) (hb : two = true → bitsVal bs (p + 1 + 1 + 8) 8 = b) (hl : p + 10 + (if two then 8 else 0) ≤ 8 * bs.length) (hbb : 0 ≤ b ∧ b < 256)
    (hG : G ≠ S ∧ G ≠ g ∧ ∀ ad, A = some ad → ad.block ≠ G) (hGw : G < w.heap.size) (hO : w.ownsRow base 3 1 (.slice (some ⟨G, 0, none⟩) k k) k (nums .i64 (zeros k))) (_hk : k ≤ 4096) :
    Calls Try.prog 20 #[.pointer (some ⟨S, 0, none⟩), .slice (some ⟨G, 0, none⟩) k k] w fun e w' => e = .returned (.tuple #[]) ∧ w'.ownsRow base 3 1 (.slice (some ⟨G, 0, none⟩) k k) k (nums .i64 (layS (zeros k) (twoS two a b)).1) ∧
      w'.heap[S]? = some (.cells #[.pointer (some ⟨g, 0, none⟩), .int .i64 (errS (layS (zeros k) (twoS two a b)).2)] 57 (0, 0)) ∧ Mods [S, g, G] w w' := by
  have hab : 0 ≤ a ∧ a < 256 := by rw [← ha]; exact ⟨bitsVal_nonneg _ _ _, bitsVal_lt _ _ 8⟩
  have HW := Lib.hid hw; have HA := Lib.hid ha; have H := Lib.hid h; have HO := Lib.hid hO; have HG := Lib.hid hG
  have hSw : S < w.heap.size := blk_lt h.blk
  have hgw : g < w.heap.size := h.rdr.lt
  have hbnd : Hid (∀ x ∈ twoS two a b, 0 ≤ x ∧ x < 256) := Lib.hid (show ∀ x ∈ twoS two a b, 0 ≤ x ∧ x < 256 from by
    intro x hx
    unfold twoS at hx
    split at hx
    · simp at hx; rcases hx with rfl | rfl <;> assumption
    · simp at hx; subst hx; exact hab)
  clear hw ha h hO hG
  cases two
  all_goals
    simp only [Bool.false_eq_true, if_true, if_false] at ht hl
    have HT := Lib.hid ht; clear ht
    go_enter Try.func20, Try.ntmps20
    go_wp2_with fail
    refine (num_src _ S g A bs p 1 w HT (by omega) (by omega) (by omega) H.out).mono ?_
    rintro e w1 ⟨rfl, hS1, hM1⟩
    have H1 := Lib.hid hS1; have HM1 := Lib.hid hM1; clear hS1 hM1
    go_wp2_with fail
    refine (num_src 1 S g A bs (p + 1) 1 w1 HW (by omega) (by omega) (by omega) H1.out).mono ?_
    rintro e w2 ⟨rfl, hS2, hM2⟩
    have H2 := Lib.hid hS2; have HM2 := Lib.hid (HM1.out.trans hM2); clear hS2 hM2
    go_wp2_with fail
    refine (num_src a S g A bs (p + 1 + 1) 8 w2 HA (by omega) (by omega) (by omega) H2.out).mono ?_
    rintro e w3 ⟨rfl, hS3, hM3⟩
    have H3 := Lib.hid hS3; have HM3 := Lib.hid (HM2.out.trans hM3); clear hS3 hM3
    have hz3 := HM3.out.size
    have hO3 := Lib.hid (own_lit w3 (w3.heap.size) 3 .i64 [a] (Nat.le_refl _) (by simp))
    go_wp2_with fail
  · have hm4 : Mods [S, g, G] w3 (w3.alloc (.cells #[.int .i64 a] 3)) := (Mods.refl _ _).alloc _
    obtain ⟨wL, hwL⟩ : ∃ wL, w3.alloc (.cells #[.int .i64 a] 3) = wL := ⟨_, rfl⟩
    have hr3 := hO3.out
    obtain ⟨A1, c1, he1, hr4⟩ := own_reads hr3
    cases he1
    obtain ⟨AL, hAL⟩ : ∃ AL : Option Addr, AL = some ⟨w3.heap.size, 0, none⟩ := ⟨_, rfl⟩
    have hm5 : Mods [S, g, G] w wL := by rw [← hwL]; exact (HM3.out.mono (by simp)).trans hm4
    have HML := Lib.hid hm5
    have HLB := Lib.hid (show ∀ ad, AL = some ad → w.heap.size ≤ ad.block from fun ad h => by rw [hAL] at h; cases h; exact hz3)
    have HRL := Lib.hid (show ReadsInt wL .i64 AL 1 (twoS false a b) from by rw [← hwL, hAL]; exact hr4)
    have HBL := Lib.hid (show wL.heap[S]? = some (.cells #[.pointer (some ⟨g, 0, none⟩), .int .i64 0] 57 (0, 0)) from by rw [← hwL]; exact (show Mods [] w3 (w3.alloc (.cells #[.int .i64 a] 3)) from (Mods.refl _ _).alloc _).blk H3.out.blk (by simp))
    have HOL := Lib.hid (show wL.ownsRow base 3 1 (.slice (some ⟨G, 0, none⟩) k k) k (nums .i64 (zeros k)) from own_move HO.out (fun q hq => by
      have e : G = q := by simpa [Value.ownBlock] using hq
      subst e
      rw [← hwL]
      exact (HM3.out.trans ((Mods.refl _ _).alloc _)).block G hGw (by have := HG.out; simp; exact ⟨this.1, this.2.1⟩)))
    rw [hwL, ← hAL]
    clear hm4 hwL hr3 hr4 hAL hm5 hO3
    obtain ⟨wo, hwo⟩ : ∃ wo : World, wo = wL := ⟨_, rfl⟩
    subst hwo
    go_loopw [9, 29] (fun x y wr => ∃ (j : Nat) (out : List Int), y = .int .i64 j ∧ j ≤ 1 ∧ Hid (Lay w wr S g G base k false a b AL 1 j out)) (fun x y _ => 1 - (intOf y).toNat)
    case atStart => exact ⟨0, zeros k, rfl, by omega, ⟨rfl, by simp [zeros], HOL.out, HBL.out, HRL.out, HML.out⟩⟩
    case round =>
      obtain ⟨j, out, rfl, hj, HLay⟩ := hrel
      have hxl : Hid ((twoS false a b).length = 1) := HRL.out.1
      by_cases hlt : j < 1
      · obtain ⟨x, hx⟩ : ∃ x, rd (twoS false a b) (j : Int) = x := ⟨_, rfl⟩
        have hxb : 0 ≤ x ∧ x < 256 := by rw [← hx]; exact hbnd.out _ (rd_mem (by rw [hxl.out]; omega))
        obtain ⟨ad, hA, hcell⟩ := ReadsInt.at_ HLay.out.reads (j : Int) (by omega) (by omega)
        rw [Int.toNat_natCast, hx] at hcell
        have hAL := HLB.out ad hA
        subst hA
        have hdrop := Lib.hid (rd_drop (xs := twoS false a b) (j := j) (by rw [hxl.out]; omega))
        have HX := Lib.hid hx
        have hb1 := HLay.out.blk
        have hs0 : wr.cell? ⟨S, 0, none⟩ = some (.pointer (some ⟨g, 0, none⟩)) := by rw [cell_blk hb1]; rfl
        have hs1 : wr.cell? ⟨S, 1, none⟩ = some (.int .i64 0) := by rw [cell_blk hb1]; rfl
        have hsf := free_blk hb1 1
        have hol := Lib.hid HLay.out.len
        have hlay : Hid (layS (zeros k) (twoS false a b) = if x < out.length ∧ rd out x = 0 then layS (out.set x.toNat 1) ((twoS false a b).drop (j + 1)) else (out, false)) := Lib.hid (by rw [HLay.out.fin, hdrop.out, HX.out]; rfl)
        clear hx hb1
        obtain ⟨xn, rfl⟩ := Int.eq_ofNat_of_zero_le hxb.1
        rw [Int.toNat_natCast] at hlay
        by_cases hxk : xn < k
        · obtain ⟨hc1, hf1⟩ := own_at HLay.out.own (xn : Int) (by omega) (by omega)
          rw [Int.toNat_natCast] at hc1 hf1
          by_cases hz : rd out (xn : Int) = 0
          · have hzb : (rd out (xn : Int) != 0) = false := by simp [hz]
            have HN := Lib.hid (show layS (zeros k) (twoS false a b) = layS (out.set xn 1) ((twoS false a b).drop (j + 1)) from by rw [hlay.out, if_pos ⟨by rw [hol.out]; omega, hz⟩])
            clear hz
            generalize rd out (xn : Int) = z at *
            go_wp2_with fail
            go_roundw
            case rel =>
              have hm : Mods [S, g, G] wr (wr.setCell ⟨G, xn, none⟩ (.int .i64 1)) := (Mods.refl _ _).setCell (by simp) _
              have ho := (own_store HLay.out.own (xn : Int) 1).1
              rw [Int.toNat_natCast] at ho
              first | exact ⟨j + 1, out.set xn 1, by go_num, by omega, ⟨HN.out, by rw [List.length_set]; exact hol.out, ho, by rw [(show Mods [G] wr (wr.setCell ⟨G, xn, none⟩ (.int .i64 1)) from (Mods.refl _ _).setCell (by simp) _).blk HLay.out.blk (by simpa using HG.out.1.symm)], ReadsInt.mods HLay.out.reads hm (fun ad h => by have := HLB.out ad h; simp; omega), HLay.out.mods.trans hm⟩⟩ | ((repeat apply Exists.intro); exact ⟨⟨j + 1, out.set xn 1, by go_num, by omega, ⟨HN.out, by rw [List.length_set]; exact hol.out, ho, by rw [(show Mods [G] wr (wr.setCell ⟨G, xn, none⟩ (.int .i64 1)) from (Mods.refl _ _).setCell (by simp) _).blk HLay.out.blk (by simpa using HG.out.1.symm)], ReadsInt.mods HLay.out.reads hm (fun ad h => by have := HLB.out ad h; simp; omega), HLay.out.mods.trans hm⟩⟩, rfl⟩)
            case measure => simp [intOf]; omega
          · have hzb : (rd out (xn : Int) != 0) = true := by simp [hz]
            have HN := Lib.hid (show layS (zeros k) (twoS false a b) = (out, false) from by rw [hlay.out, if_neg (fun h => hz h.2)])
            clear hz
            generalize rd out (xn : Int) = z at *
            have HB1 := Lib.hid HLay.out.blk
            go_wp2_with fail
            refine (fail_src S _ 3 wr HB1.out).mono ?_
            rintro e w' ⟨rfl, rfl⟩
            go_wp2_with fail
            refine bodyPost_ret (results_none rfl _ _ _) rfl ?_
            have hm : Mods [S] wr (wr.setCell ⟨S, 1, none⟩ (.int .i64 3)) := (Mods.refl _ _).setCell (by simp) _
            exact ⟨rfl, by rw [HN.out]; exact own_mods HLay.out.own hm (by simpa using HG.out.1), by rw [HN.out, blk_set HLay.out.blk]; rfl, HLay.out.mods.trans (hm.mono (by simp))⟩
        · have HN := Lib.hid (show layS (zeros k) (twoS false a b) = (out, false) from by rw [hlay.out, if_neg (fun h => hxk (by have := h.1; rw [hol.out] at this; omega))])
          have HB1 := Lib.hid HLay.out.blk
          go_wp2_with fail
          refine (fail_src S _ 3 wr HB1.out).mono ?_
          rintro e w' ⟨rfl, rfl⟩
          go_wp2_with fail
          refine bodyPost_ret (results_none rfl _ _ _) rfl ?_
          have hm : Mods [S] wr (wr.setCell ⟨S, 1, none⟩ (.int .i64 3)) := (Mods.refl _ _).setCell (by simp) _
          exact ⟨rfl, by rw [HN.out]; exact own_mods HLay.out.own hm (by simpa using HG.out.1), by rw [HN.out, blk_set HLay.out.blk]; rfl, HLay.out.mods.trans (hm.mono (by simp))⟩
      · have HN := Lib.hid (show layS (zeros k) (twoS false a b) = (out, true) from by rw [HLay.out.fin, List.drop_of_length_le (by rw [hxl.out]; omega)]; rfl)
        go_wp2_with fail
        go_end0
        exact ⟨rfl, by rw [HN.out]; exact HLay.out.own, by rw [HN.out]; exact HLay.out.blk, HLay.out.mods⟩
  · have hm4 : Mods [] w3 (w3.alloc (.cells #[.int .i64 a] 3)) := (Mods.refl _ _).alloc _
    have HS4 := Lib.hid (H3.out.mods hm4 (by simp) (by simp) (by simp))
    have HM4 := Lib.hid (HM3.out.trans (hm4.mono (by simp)))
    have HBV : Hid (bitsVal bs (p + 1 + 1 + 8) 8 = b) := by first | exact hb rfl | exact hb trivial
    clear hm4
    refine (num_src b S g A bs (p + 1 + 1 + 8) 8 _ HBV (by omega) (by omega) (by omega) HS4.out).mono ?_
    rintro e w5 ⟨rfl, hS5, hM5⟩
    have HS5 := Lib.hid hS5; have HM5 := Lib.hid (HM4.out.trans hM5)
    have HO5 := Lib.hid (own_mods hO3.out hM5 (by simp; constructor <;> omega))
    have hz5 : w3.heap.size ≤ w5.heap.size := by have := hM5.size; simp at this; omega
    clear hS5 hM5 hO3
    go_wp2_with (at_builtin; refine print_append_num w3.heap.size rfl _ _ 27 3 .i64 8 rfl Try.underlying27 info_int (by decide) (.slice (some ⟨w3.heap.size, 0, none⟩) 1 1) [a] b rfl rfl HO5.out (show Below w3.heap.size w5 w5 from Below.refl _ _) hz5 (by simp) ?_)
    intro v1 wL hown hB hg hat
    obtain ⟨A1, c1, rfl, hr1⟩ := own_reads hown
    have hat2 : ∀ ad, A1 = some ad → w.heap.size ≤ ad.block := fun ad h => by
      have := own_base hown ad.block (by rw [h]; rfl)
      omega
    have hmL : Mods [w3.heap.size] w5 wL := Mods.grown (Mods.refl _ _) hg (fun k hk => by simp [Value.ownBlock] at hk; simp [hk])
    have HML := Lib.hid (show Mods [S, g, G] w wL from Mods.trans_new (HM5.out.mono (by simp)) hmL (by simp; omega))
    have HLB := Lib.hid hat2
    have HRL := Lib.hid (show ReadsInt wL .i64 A1 2 (twoS true a b) from hr1)
    have HBL := Lib.hid (hmL.blk HS5.out.blk (by simp; omega))
    have HOL := Lib.hid (own_mods (own_mods HO.out HM5.out (by have := HG.out; simp; exact ⟨this.1, this.2.1⟩)) hmL (by simp; omega))
    clear hown hB hg hat hr1 hat2 hmL HO5 HM5 HS5 HM4 HS4
    obtain ⟨AL, hAL⟩ : ∃ AL : Option Addr, AL = A1 := ⟨_, rfl⟩
    subst hAL
    go_wp2_with fail
    obtain ⟨wo, hwo⟩ : ∃ wo : World, wo = wL := ⟨_, rfl⟩
    subst hwo
    go_loopw [9, 29] (fun x y wr => ∃ (j : Nat) (out : List Int), y = .int .i64 j ∧ j ≤ 2 ∧ Hid (Lay w wr S g G base k true a b AL 2 j out)) (fun x y _ => 2 - (intOf y).toNat)
    case atStart => exact ⟨0, zeros k, rfl, by omega, ⟨rfl, by simp [zeros], HOL.out, HBL.out, HRL.out, HML.out⟩⟩
    case round =>
      obtain ⟨j, out, rfl, hj, HLay⟩ := hrel
      have hxl : Hid ((twoS true a b).length = 2) := HRL.out.1
      by_cases hlt : j < 2
      · obtain ⟨x, hx⟩ : ∃ x, rd (twoS true a b) (j : Int) = x := ⟨_, rfl⟩
        have hxb : 0 ≤ x ∧ x < 256 := by rw [← hx]; exact hbnd.out _ (rd_mem (by rw [hxl.out]; omega))
        obtain ⟨ad, hA, hcell⟩ := ReadsInt.at_ HLay.out.reads (j : Int) (by omega) (by omega)
        rw [Int.toNat_natCast, hx] at hcell
        have hAL := HLB.out ad hA
        subst hA
        have hdrop := Lib.hid (rd_drop (xs := twoS true a b) (j := j) (by rw [hxl.out]; omega))
        have HX := Lib.hid hx
        have hb1 := HLay.out.blk
        have hs0 : wr.cell? ⟨S, 0, none⟩ = some (.pointer (some ⟨g, 0, none⟩)) := by rw [cell_blk hb1]; rfl
        have hs1 : wr.cell? ⟨S, 1, none⟩ = some (.int .i64 0) := by rw [cell_blk hb1]; rfl
        have hsf := free_blk hb1 1
        have hol := Lib.hid HLay.out.len
        have hlay : Hid (layS (zeros k) (twoS true a b) = if x < out.length ∧ rd out x = 0 then layS (out.set x.toNat 1) ((twoS true a b).drop (j + 1)) else (out, false)) := Lib.hid (by rw [HLay.out.fin, hdrop.out, HX.out]; rfl)
        clear hx hb1
        obtain ⟨xn, rfl⟩ := Int.eq_ofNat_of_zero_le hxb.1
        rw [Int.toNat_natCast] at hlay
        by_cases hxk : xn < k
        · obtain ⟨hc1, hf1⟩ := own_at HLay.out.own (xn : Int) (by omega) (by omega)
          rw [Int.toNat_natCast] at hc1 hf1
          by_cases hz : rd out (xn : Int) = 0
          · have hzb : (rd out (xn : Int) != 0) = false := by simp [hz]
            have HN := Lib.hid (show layS (zeros k) (twoS true a b) = layS (out.set xn 1) ((twoS true a b).drop (j + 1)) from by rw [hlay.out, if_pos ⟨by rw [hol.out]; omega, hz⟩])
            clear hz
            generalize rd out (xn : Int) = z at *
            go_wp2_with fail
            go_roundw
            case rel =>
              have hm : Mods [S, g, G] wr (wr.setCell ⟨G, xn, none⟩ (.int .i64 1)) := (Mods.refl _ _).setCell (by simp) _
              have ho := (own_store HLay.out.own (xn : Int) 1).1
              rw [Int.toNat_natCast] at ho
              first | exact ⟨j + 1, out.set xn 1, by go_num, by omega, ⟨HN.out, by rw [List.length_set]; exact hol.out, ho, by rw [(show Mods [G] wr (wr.setCell ⟨G, xn, none⟩ (.int .i64 1)) from (Mods.refl _ _).setCell (by simp) _).blk HLay.out.blk (by simpa using HG.out.1.symm)], ReadsInt.mods HLay.out.reads hm (fun ad h => by have := HLB.out ad h; simp; omega), HLay.out.mods.trans hm⟩⟩ | ((repeat apply Exists.intro); exact ⟨⟨j + 1, out.set xn 1, by go_num, by omega, ⟨HN.out, by rw [List.length_set]; exact hol.out, ho, by rw [(show Mods [G] wr (wr.setCell ⟨G, xn, none⟩ (.int .i64 1)) from (Mods.refl _ _).setCell (by simp) _).blk HLay.out.blk (by simpa using HG.out.1.symm)], ReadsInt.mods HLay.out.reads hm (fun ad h => by have := HLB.out ad h; simp; omega), HLay.out.mods.trans hm⟩⟩, rfl⟩)
            case measure => simp [intOf]; omega
          · have hzb : (rd out (xn : Int) != 0) = true := by simp [hz]
            have HN := Lib.hid (show layS (zeros k) (twoS true a b) = (out, false) from by rw [hlay.out, if_neg (fun h => hz h.2)])
            clear hz
            generalize rd out (xn : Int) = z at *
            have HB1 := Lib.hid HLay.out.blk
            go_wp2_with fail
            refine (fail_src S _ 3 wr HB1.out).mono ?_
            rintro e w' ⟨rfl, rfl⟩
            go_wp2_with fail
            refine bodyPost_ret (results_none rfl _ _ _) rfl ?_
            have hm : Mods [S] wr (wr.setCell ⟨S, 1, none⟩ (.int .i64 3)) := (Mods.refl _ _).setCell (by simp) _
            exact ⟨rfl, by rw [HN.out]; exact own_mods HLay.out.own hm (by simpa using HG.out.1), by rw [HN.out, blk_set HLay.out.blk]; rfl, HLay.out.mods.trans (hm.mono (by simp))⟩
        · have HN := Lib.hid (show layS (zeros k) (twoS true a b) = (out, false) from by rw [hlay.out, if_neg (fun h => hxk (by have := h.1; rw [hol.out] at this; omega))])
          have HB1 := Lib.hid HLay.out.blk
          go_wp2_with fail
          refine (fail_src S _ 3 wr HB1.out).mono ?_
          rintro e w' ⟨rfl, rfl⟩
          go_wp2_with fail
          refine bodyPost_ret (results_none rfl _ _ _) rfl ?_
          have hm : Mods [S] wr (wr.setCell ⟨S, 1, none⟩ (.int .i64 3)) := (Mods.refl _ _).setCell (by simp) _
          exact ⟨rfl, by rw [HN.out]; exact own_mods HLay.out.own hm (by simpa using HG.out.1), by rw [HN.out, blk_set HLay.out.blk]; rfl, HLay.out.mods.trans (hm.mono (by simp))⟩
      · have HN := Lib.hid (show layS (zeros k) (twoS true a b) = (out, true) from by rw [HLay.out.fin, List.drop_of_length_le (by rw [hxl.out]; omega)]; rfl)
        go_wp2_with fail
        go_end0
        exact ⟨rfl, by rw [HN.out]; exact HLay.out.own, by rw [HN.out]; exact HLay.out.blk, HLay.out.mods⟩
end Go.Proofs.Ytcjfipkbjcpbgaa
