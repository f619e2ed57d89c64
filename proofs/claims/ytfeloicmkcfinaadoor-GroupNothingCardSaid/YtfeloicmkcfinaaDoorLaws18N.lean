/- The law GroupNothing. -/
import Derived.Test.YtfeloicmkcfinaaDoorLaws18A
import Derived.Laws.StructEq
namespace Go.Proofs.YtfeloicmkcfinaaDoor
open Go.RowKit
open Go.Proofs.YtfeloicmkcfinaaDoorW.PrintWords
open Srt

def atOf (p k : Nat) : Nat := if k < 4 then qS p k else 7
theorem atOf_lt {p c : Nat} (hp : p < 4294967296) (hc : c ≤ 11) : ∀ k, k < 5 → atOf p k < szN c k := fun k hk => by
  unfold atOf
  split
  · have h1 := qS_lt hp k; have h2 := szN_256 hc (k := k) (by omega); omega
  · have := (szN_le hc k).1; omega
theorem and255K (x : Int) (h0 : 0 ≤ x) (h1 : x < 4294967296) : bits BinOp.and .u32 x 255 = x % 256 :=
  bits_mask .u32 32 (by decide) (fun n h0 h1 => by simp [IntKind.wrap, IntKind.bits, IntKind.signed]; omega) 8 (by omega) x h0 (by omega)
theorem u16_of (x : Int) (h0 : 0 ≤ x) (h1 : x < 65536) : IntKind.u16.wrap x = x := by simp [IntKind.wrap, IntKind.bits, IntKind.signed]; omega
theorem xor_u32_nat (a b : Nat) (ha : a < 4294967296) (hb : b < 4294967296) : bits .xor .u32 (a : Int) (b : Int) = ((a ^^^ b : Nat) : Int) := by
  have hx : a ^^^ b < 2 ^ 32 := Nat.xor_lt_two_pow (by omega) (by omega)
  have h1 : (BitVec.ofInt 32 (a : Int)).toNat = a := by
    rw [BitVec.ofInt_natCast, BitVec.toNat_ofNat]; exact Nat.mod_eq_of_lt (by omega)
  have h2 : (BitVec.ofInt 32 (b : Int)).toNat = b := by
    rw [BitVec.ofInt_natCast, BitVec.toNat_ofNat]; exact Nat.mod_eq_of_lt (by omega)
  show IntKind.u32.wrap ((BitVec.ofInt 32 (a : Int) ^^^ BitVec.ofInt 32 (b : Int)).toNat : Int) = _
  rw [BitVec.toNat_xor, h1, h2]
  simp [IntKind.wrap, IntKind.bits, IntKind.signed]; omega
theorem xor_facts (p : Nat) : (p ^^^ 1) / 256 = p / 256 ∧ (p ^^^ 1) % 2 = (p + 1) % 2 := by
  constructor
  · have h : (p ^^^ 1) >>> 8 = p >>> 8 ^^^ 1 >>> 8 := Nat.shiftRight_xor_distrib
    rw [Nat.shiftRight_eq_div_pow, Nat.shiftRight_eq_div_pow, Nat.shiftRight_eq_div_pow] at h
    simpa using h
  · have h := Nat.xor_mod_two_pow (a := p) (b := 1) (n := 1)
    simp only [Nat.pow_one] at h
    rw [h]
    have z0 : (0 ^^^ 1 % 2 : Nat) = 1 := by decide
    have z1 : (1 ^^^ 1 % 2 : Nat) = 0 := by decide
    rcases Nat.mod_two_eq_zero_or_one p with e | e
    · rw [e, z0]; omega
    · rw [e, z1]; omega
theorem px_none {ls : Nat → List Int} {p : Nat} (h : ∀ k, k < 4 → (oneS (ls k)).2 = true) : pxB ls p 4 = [] := by
  have key : ∀ k, k ≤ 4 → pxB ls p k = [] := by
    intro k
    induction k with
    | zero => intro _; rfl
    | succ k ih =>
      intro hk
      have e : costS (ls k) (qS p k) = 0 := by unfold costS; rw [h k (by omega)]; simp
      unfold pxB
      rw [ih (by omega), e]; rfl
  exact key 4 (Nat.le_refl _)
set_option maxRecDepth 100000 in
set_option maxHeartbeats 8000000 in
theorem law_GroupNothing (p : Nat) (ch : Nat) (A : Option Addr) (n cap : Nat) (bs : List Int) (w : World) (hp : p < 4294967296) (hch : ch ≤ 255) (HR : ReadsInt w .u8 A n bs) (hbs : ∀ x ∈ bs, 0 ≤ x ∧ x ≤ 255) :
    Calls Tryd.prog 3 #[.int .u32 p, .int .u8 ch, .slice A n cap] w fun e w' => e = .returned (.bool true) ∧ Below w.heap.size w w' := by
  obtain ⟨c, hcc⟩ : ∃ c, ch % 12 = c := ⟨_, rfl⟩
  have hc : c ≤ 11 := by omega
  have e0 : (ch : Int) % 12 = (c : Int) := by omega
  have e1 : IntKind.i64.wrap (c : Int) = (c : Int) := IntWalk.i64_in _ (by omega)
  have e2 : wrap64 (c : Int) = (c : Int) := w64 _ (by omega) (by omega)
  have e3 : (ch : Int).tmod 12 = (c : Int) := by rw [Int.tmod_eq_emod_of_nonneg (by omega)]; exact e0
  have HRR := Lib.hid HR; have HX := Lib.hid hbs; have HLN := Lib.hid HR.1
  clear HR hbs hcc
  by_cases hn : 50 < n
  · have d0 : decide (50 < (n : Int)) = true := decide_eq_true (by omega)
    go_enter Tryd.func3, Tryd.ntmps3
    go_wp2_with fail
    refine (answers18 _).mono ?_
    rintro e w' ⟨rfl, hB⟩
    go_wp2_with fail
    go_ret
    exact ⟨rfl, hB⟩
  · have d0 : decide (50 < (n : Int)) = false := decide_eq_false (by omega)
    go_enter Tryd.func3, Tryd.ntmps3
    go_wp2_with fail
    have t0 : IntKind.u16.wrap (bits BinOp.and .u32 ((p : Int) / 256) 255) = ((atOf p 0 : Nat) : Int) := by
      rw [and255K _ (by omega) (by omega), u16_of _ (by omega) (by omega)]; show _ = ((p / 256 % 256 : Nat) : Int); omega
    have t1 : IntKind.u16.wrap (bits BinOp.and .u32 ((p : Int) / 65536) 255) = ((atOf p 1 : Nat) : Int) := by
      rw [and255K _ (by omega) (by omega), u16_of _ (by omega) (by omega)]; show _ = ((p / 65536 % 256 : Nat) : Int); omega
    have t2 : IntKind.u16.wrap (bits BinOp.and .u32 (p : Int) 255) = ((atOf p 2 : Nat) : Int) := by
      rw [and255K _ (by omega) (by omega), u16_of _ (by omega) (by omega)]; show _ = ((p % 256 : Nat) : Int); omega
    have t3 : (p : Int) / 16777216 = ((atOf p 3 : Nat) : Int) := by show _ = ((p / 16777216 : Nat) : Int); omega
    have t4 : (7 : Int) = ((atOf p 4 : Nat) : Int) := rfl
    have HF := Lib.hid (five_one c (atOf p) w hc (atOf_lt hp hc))
    rw [← t0, ← t1, ← t2, ← t3, ← t4] at HF
    refine HF.out.mono ?_
    rintro e w1 ⟨hB, D, hD, rfl, hL⟩
    have HB1 := Lib.hid hB
    have HL1 := Lib.hid hL
    have hz1 := hB.size
    have HO : Hid (outs D c 5 = #[.slice (some ⟨D + 0, 0, none⟩) (szN c 0) (szN c 0), .slice (some ⟨D + 1, 0, none⟩) (szN c 1) (szN c 1), .slice (some ⟨D + 2, 0, none⟩) (szN c 2) (szN c 2), .slice (some ⟨D + 3, 0, none⟩) (szN c 3) (szN c 3), .slice (some ⟨D + 4, 0, none⟩) (szN c 4) (szN c 4)]) := Lib.hid rfl
    rw [HO.out]
    clear hB hL t0 t1 t2 t3 t4 HF
    go_wp2_with fail
    have hm2 : Mods [] w1 (w1.alloc (.cells (outs D c 5) 27)) := (Mods.refl [] w1).alloc _
    have HB2 := Lib.hid (HB1.out.alloc hz1 (.cells (outs D c 5) 27))
    have HL2 := Lib.hid (show ∀ k, k < 5 → BlkI (w1.alloc (.cells (outs D c 5) 27)) (D + k) (oneH c (atOf p) k) from fun k hk => (HL1.out k hk).mods hm2 (by simp))
    rw [show (w1.alloc (.cells #[.slice (some ⟨D, 0, none⟩) (szN c 0) (szN c 0), .slice (some ⟨D + 1, 0, none⟩) (szN c 1) (szN c 1), .slice (some ⟨D + 2, 0, none⟩) (szN c 2) (szN c 2), .slice (some ⟨D + 3, 0, none⟩) (szN c 3) (szN c 3), .slice (some ⟨D + 4, 0, none⟩) (szN c 4) (szN c 4)] 27)) = w1.alloc (.cells (outs D c 5) 27) from rfl]
    have hz2 : w1.heap.size < (w1.alloc (.cells (outs D c 5) 27)).heap.size := by simp
    clear hm2
    generalize w1.alloc (.cells (outs D c 5) 27) = w2 at *
    have HNG := Lib.hid (new_good (fun k => some ⟨D + k, 0, none⟩) (szN c) (szN c) (oneH c (atOf p)) c w2 hc (fun k hk => by
        have h := (HL2.out k hk).reads (by unfold oneH; simp; have := (szN_le hc k).2; omega)
        rwa [show (oneH c (atOf p) k).length = szN c k from by simp [oneH]] at h) (fun k _ => Nat.le_refl _) (fun k _ => rfl) (fun k hk => (oneH_tree (szN c k) (atOf p k) 1 (atOf_lt hp hc k hk) (by omega) (by omega)).1))
    refine HNG.out.mono ?_
    rintro e w3 ⟨hB3, G, rfl, hG, hGr⟩
    have HB3 := Lib.hid (below_then HB2.out HB2.out.size hB3)
    have HG3 := Lib.hid hGr
    have HGB := Lib.hid hG
    have hz3 := HB3.out.size
    clear hB3 hGr HNG hG
    go_wp2_with fail
    refine (newReader2 A n cap bs w3 (HRR.out.below HB3.out) HX.out (by omega)).mono ?_
    rintro e w4 ⟨g, A', rfl, hg, hA1, hA2, hR4, hB4⟩
    have HB4 := Lib.hid (below_then HB3.out hz3 hB4)
    have HR4 := Lib.hid hR4; have HA4 := Lib.hid hA2
    have HG4 := Lib.hid (HG3.out.below hB4)
    have hz4 : w3.heap.size ≤ w4.heap.size := hB4.size
    have hgw : g < w4.heap.size := hR4.lt
    have HLB := Lib.hid (show bs.length = n from HLN.out)
    clear hA1 hA2 hR4 hB4
    go_wp2_with fail
    have HSYM := Lib.hid (show ∀ k, k < 5 → ∀ q, Sym (oneH c (atOf p) k) bs q 0 (atOf p k) from fun k hk q => by
      have h := (oneH_tree (szN c k) (atOf p k) 1 (atOf_lt hp hc k hk) (by omega) (by omega)).2
      exact .inl ⟨by unfold oneH; rw [h], rfl, by unfold oneH; rw [h]⟩)
    have HMKQ : Hid (mk32 (atOf p 3) (atOf p 1) (atOf p 0) (atOf p 2) = p) := Lib.hid (mk_q (p := p))
    have HSTEP := Lib.hid (fun W (hGr : IsGrp W G w3.heap.size (oneH c (atOf p))) (hRd : Rdr W g A' bs 0 false) (hW : w4.heap.size ≤ W.heap.size) => show Calls Tryd.prog 8 #[.pointer (some ⟨G, 0, none⟩), .pointer (some ⟨g, 0, none⟩), .int .i64 9] W fun e w' => e = .returned (.tuple #[tkV (lit p), .int .i64 0]) ∧ Rdr w' g A' bs 0 false ∧ Mods [g] W w' from by
      have h := step_lit G w3.heap.size g (oneH c (atOf p)) A' bs 0 0 (atOf p 0) 9 (fun _ => 0) (atOf p) W hGr hg (fun ad h => by have := HA4.out ad h; omega) hRd (HSYM.out 0 (by omega) 0) rfl (Nat.zero_le _) ⟨fun k hk => ⟨0, HSYM.out (k + 1) (by omega) 0, rfl⟩, fun k hk => Nat.zero_le _, fun k hk => by
        unfold atOf; rw [if_pos (by omega)]; exact qS_lt hp _⟩ (by unfold atOf; rw [if_pos (by omega)]; exact qS_lt hp _) (by omega)
      rw [HMKQ.out] at h
      exact h)
    go_loopw [12, 13, 14] (fun i _ _ wr => ∃ k : Nat, k ≤ 10 ∧ i = .int .i64 k ∧ Hid (Rdr wr g A' bs 0 false) ∧ Hid (Mods [g] w4 wr)) (fun i _ _ _ => 10 - (intOf i).toNat)
    case atStart => exact ⟨0, by omega, rfl, HR4, Lib.hid (Mods.refl _ _)⟩
    case round =>
      clear HR4
      obtain ⟨k, hk, rfl, HR, HM⟩ := hrel
      by_cases hlt : k < 10
      · have k1 : decide ((k : Int) < 10) = true := decide_eq_true (by omega)
        have HST := Lib.hid (HSTEP.out wr (HG4.out.mods HM.out (by simpa using hg)) HR.out HM.out.size)
        go_wp2_with fail
        refine HST.out.mono ?_
        rintro e w5 ⟨rfl, hR5, hM5⟩
        have HR5 := Lib.hid hR5; have HM5 := Lib.hid (HM.out.trans hM5)
        rw [show tkV (lit p) = .agg #[.int .i64 1, .int .i64 0, .int .i64 0, .int .i64 0, .int .u32 p] from rfl]
        clear hR5 hM5 HST
        go_wp2_with fail
        have hal := (Mods.refl [] w5).alloc (.cells #[.int .i64 1, .int .i64 0, .int .i64 0, .int .i64 0, .int .u32 p] 39)
        have HR6 := Lib.hid (HR5.out.mods hal (by simp) (by simp)); have HM6 := Lib.hid (HM5.out.trans (hal.mono (R := [g]) (by simp)))
        clear hal
        generalize w5.alloc (.cells #[.int .i64 1, .int .i64 0, .int .i64 0, .int .i64 0, .int .u32 p] 39) = w6 at *
        have HLE := Lib.hid (show Calls Tryd.prog 9 #[.pointer (some ⟨g, 0, none⟩)] w6 fun e w' => e = .returned (.int .i64 (8 * (n : Int))) ∧ ∃ m, w' = w6.drewN m from (left_any g A' bs 0 false w6 HR6.out).mono fun _ _ h => by
          obtain ⟨h1, h2⟩ := h
          refine ⟨?_, h2⟩
          rw [h1, HLB.out]; simp)
        have m1 : wrap64 (8 * (n : Int)) = 8 * (n : Int) := w64 _ (by omega) (by omega)
        have m2 : IntKind.i64.wrap (8 * (n : Int)) = 8 * (n : Int) := IntWalk.i64_in _ (by omega)
        refine HLE.out.mono ?_
        rintro e w7 ⟨rfl, m, rfl⟩
        have HR7 := Lib.hid (HR6.out.drewN m); have HM7 := Lib.hid (HM6.out.drewN m)
        clear HLE
        go_wp2_with fail
        go_roundw
        case rel => first | exact ⟨k + 1, by omega, by go_num, HR7, HM7⟩ | ((repeat apply Exists.intro); exact ⟨⟨k + 1, by omega, by go_num, HR7, HM7⟩, rfl⟩)
        case measure => simp [intOf]; omega
      · obtain rfl : k = 10 := by omega
        have HGL := Lib.hid (HG4.out.mods HM.out (by simpa using hg))
        have HB5 := Lib.hid (show Below w.heap.size w wr from Below.then_mods (show Below w.heap.size w w4 from by
          exact HB4.out) (by omega) HM.out (by simp; omega))
        have hz5 := HB5.out.size
        have hz45 := HM.out.size
        go_wp2_with fail
        refine (w_new wr).mono ?_
        rintro e w5 ⟨rfl, hW, hB⟩
        have HW5 := Lib.hid hW
        have HG5 := Lib.hid (HGL.out.mods (Mods.of_below hB []) (by simp))
        have HB6 := Lib.hid (below_then HB5.out hz5 hB)
        have hz6 := hB.size
        clear hW hB
        obtain ⟨gw, hgw'⟩ : ∃ gw, wr.heap.size = gw := ⟨_, rfl⟩
        rw [hgw'] at HW5 ⊢
        have hgwh : w3.heap.size ≤ gw := by omega
        go_wp2_with fail
        refine (answers18 w5).mono ?_
        rintro e w6 ⟨rfl, hB⟩
        have HW6 := Lib.hid (HW5.out.mods (Mods.of_below hB []) (by simp) (by simp))
        have HG6 := Lib.hid (HG5.out.mods (Mods.of_below hB []) (by simp))
        have HB7 := Lib.hid (below_then HB6.out HB6.out.size hB)
        have hz7 := hB.size
        clear hB
        have hone : ∀ k, k < 4 → (oneS (oneH c (atOf p) k)).2 = true := fun k hk => by
          have h := (oneH_tree (szN c k) (atOf p k) 1 (atOf_lt hp hc k (by omega)) (by omega) (by omega)).2
          unfold oneH; rw [h]
        have hlno : ∀ k t, k < 4 → ln (oneH c (atOf p) k) t = if t = qS p k then 1 else 0 := fun k t hk => by
          have h := lnO_one (szN c k) (atOf p k) 1 (atOf_lt hp hc k (by omega)) t
          unfold oneH; rw [h]; unfold atOf; rw [if_pos hk]
        have hhas : ∀ k, k < 4 → hasS (oneH c (atOf p) k) (qS p k) = true := fun k hk => by
          have h1 := hlno k (qS p k) hk
          rw [if_pos rfl] at h1
          have h2 := atOf_lt hp hc k (show k < 5 by omega)
          unfold atOf at h2; rw [if_pos hk] at h2
          unfold hasS
          rw [Int.toNat_natCast, h1, show (oneH c (atOf p) k).length = szN c k from by simp [oneH]]
          simp; omega
        have HTL := Lib.hid (tell_lit G w3.heap.size gw p 9 (oneH c (atOf p)) (.slice none 0 0) [] w6 HG6.out hgwh (by simp [Value.ownBlock]) HW6.out (by simp) hp (by omega) hhas)
        rw [px_none hone] at HTL
        obtain ⟨q, hq⟩ : ∃ q, p ^^^ 1 = q := ⟨_, rfl⟩
        have hqf := xor_facts p
        have hq32 : q < 4294967296 := by rw [← hq]; exact Nat.xor_lt_two_pow (n := 32) (by omega) (by omega)
        have ex : bits .xor .u32 (p : Int) 1 = (q : Int) := by rw [← hq]; exact xor_u32_nat p 1 hp (by omega)
        rw [hq] at hqf
        have HEX := Lib.hid ex
        have hq0 : qS q 0 = qS p 0 := by show q / 256 % 256 = p / 256 % 256; omega
        have hq1 : qS q 1 = qS p 1 := by
          show q / 65536 % 256 = p / 65536 % 256
          have h2 : q / 256 / 256 = p / 256 / 256 := by rw [hqf.1]
          rw [Nat.div_div_eq_div_mul, Nat.div_div_eq_div_mul] at h2
          rw [h2]
        have hq2 : qS q 2 ≠ qS p 2 := by show q % 256 ≠ p % 256; omega
        have HHQ := Lib.hid (show ∀ k, k < 2 → hasS (oneH c (atOf p) k) (qS q k) = true from fun k hk => by
          have : k = 0 ∨ k = 1 := by omega
          rcases this with rfl | rfl
          · rw [hq0]; exact hhas 0 (by omega)
          · rw [hq1]; exact hhas 1 (by omega))
        have HNQ := Lib.hid (show hasS (oneH c (atOf p) 2) (qS q 2) = false from by
          have h1 := hlno 2 (qS q 2) (by omega)
          rw [if_neg hq2] at h1
          unfold hasS
          rw [Int.toNat_natCast, h1]; simp)
        clear hone hlno hhas hqf hq hq0 hq1 hq2 ex
        have HTKp : Hid (tkV (lit p) = .agg #[.int .i64 1, .int .i64 0, .int .i64 0, .int .i64 0, .int .u32 p]) := Lib.hid rfl
        have HTKq : Hid (tkV (lit q) = .agg #[.int .i64 1, .int .i64 0, .int .i64 0, .int .i64 0, .int .u32 q]) := Lib.hid rfl
        rw [HTKp.out] at HTL
        go_wp2_with fail
        refine HTL.out.mono ?_
        rintro e w7 ⟨rfl, v7, hW7, hM7, hA7⟩
        have HW7 := Lib.hid hW7
        have hz8 := hM7.size
        have HG7 := Lib.hid (HG6.out.mods hM7 (by simp [rows, Value.ownBlock]; exact hgwh))
        have HV7 := Lib.hid (show ∀ b, v7.ownBlock = some b → w3.heap.size ≤ b from fun b hb => by
          rcases hA7 with h | ⟨b', h, hb'⟩
          · rw [h] at hb; simp [Value.ownBlock] at hb
          · rw [hb] at h; cases h; omega)
        have HB8 := Lib.hid (show Below w.heap.size w w7 from Below.then_mods HB7.out (by omega) hM7 (by simp [rows, Value.ownBlock]; omega))
        clear hW7 hM7 hA7 HTL
        go_wp2_with fail
        refine (w_len gw v7 _ w7 HW7.out).mono ?_
        rintro e w' ⟨rfl, rfl⟩
        go_wp2_with fail
        have HTN := Lib.hid (tell_no 2 G w3.heap.size gw q 9 (oneH c (atOf p)) v7 _ w7 HG7.out hgwh HV7.out HW7.out hq32 (by omega) (by omega) HHQ.out HNQ.out)
        rw [HTKq.out] at HTN
        rw [HEX.out]
        refine HTN.out.mono ?_
        rintro e w8 ⟨rfl, hB⟩
        have HB9 := Lib.hid (below_then HB8.out HB8.out.size hB)
        clear hB
        go_wp2_with fail
        go_ret
        exact ⟨rfl, HB9.out⟩
theorem law_GroupNothingI (p ch : Int) (A : Option Addr) (n cap : Nat) (bs : List Int) (w : World) (hp : 0 ≤ p ∧ p ≤ 4294967295) (hch : 0 ≤ ch ∧ ch ≤ 255) (HR : ReadsInt w .u8 A n bs) (hbs : ∀ x ∈ bs, 0 ≤ x ∧ x ≤ 255) :
    Calls Tryd.prog 3 #[.int .u32 p, .int .u8 ch, .slice A n cap] w fun e w' => e = .returned (.bool true) ∧ Below w.heap.size w w' := by
  obtain ⟨p', rfl⟩ := Int.eq_ofNat_of_zero_le hp.1
  obtain ⟨ch', rfl⟩ := Int.eq_ofNat_of_zero_le hch.1
  exact law_GroupNothing p' ch' A n cap bs w (by omega) (by omega) HR hbs
end Go.Proofs.YtfeloicmkcfinaaDoor
