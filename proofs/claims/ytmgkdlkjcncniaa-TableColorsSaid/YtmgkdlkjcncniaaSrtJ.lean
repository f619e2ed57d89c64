/- The library's breaking of patterns at 32-bit numbers. -/
import Derived.Test.YtmgkdlkjcncniaaSrtB
import Derived.IntWalk
import Derived.Sort.Walk7a
import Derived.Test.YtmgkdlkjcncniaaShelf
namespace Go.Proofs.Ytmgkdlkjcncniaa
open Go.RowKit
open Go.Proofs.YtmgkdlkjcncniaaW.PrintWords

def BoxU (w : World) (q X : Nat) : Prop := ∃ T, w.heap[q]? = some (.cells #[.int .u64 X] T (0, 0))
theorem BoxU.cell {w : World} {q s : Nat} (h : BoxU w q s) : w.cell? ⟨q, 0, none⟩ = some (.int .u64 s) := by obtain ⟨T, h⟩ := h; rw [cell_blk h]; rfl
theorem BoxU.free {w : World} {q s : Nat} (h : BoxU w q s) : w.frozen? ⟨q, 0, none⟩ = false := by obtain ⟨T, h⟩ := h; exact free_blk h _
theorem BoxU.set {w : World} {q s : Nat} (h : BoxU w q s) (t : Nat) : BoxU (w.setCell ⟨q, 0, none⟩ (.int .u64 t)) q t := by obtain ⟨T, h⟩ := h; exact ⟨T, blk_set h 0 _⟩
theorem BoxU.mods {S : List Nat} {w w' : World} {q s : Nat} (h : BoxU w q s) (hm : Mods S w w') (hs : q ∉ S) : BoxU w' q s := by obtain ⟨T, h⟩ := h; exact ⟨T, hm.blk h hs⟩

theorem nextU (q X : Nat) (hX : X < 18446744073709551616) (w : World) (hb : BoxU w q X) :
    Calls Try.prog 58 #[.pointer (some ⟨q, 0, none⟩)] w fun e w' => e = .returned (.int .u64 (Sort.xorNextN X : Nat)) ∧ BoxU w' q (Sort.xorNextN X) ∧ Mods [q] w w' := by
  have hc := hb.cell; have hf := hb.free
  have HB := Lib.hid hb
  clear hb
  obtain ⟨A, hA⟩ : ∃ A : Nat, A = X ^^^ (X * 8192 % 18446744073709551616) := ⟨_, rfl⟩
  obtain ⟨B, hB⟩ : ∃ B : Nat, B = A ^^^ (A / 128) := ⟨_, rfl⟩
  obtain ⟨C, hC⟩ : ∃ C : Nat, C = B ^^^ (B * 131072 % 18446744073709551616) := ⟨_, rfl⟩
  have lA : A < 18446744073709551616 := by rw [hA]; exact Nat.xor_lt_two_pow (n := 64) (by omega) (by omega)
  have lB : B < 18446744073709551616 := by rw [hB]; exact Nat.xor_lt_two_pow (n := 64) (by omega) (by omega)
  have e1 : bits .xor .u64 (X : Int) (IntKind.u64.wrap ((X : Int) * 8192)) = (A : Int) := by
    rw [IntKind.wrap_u64, show ((X : Int) * 8192 % 18446744073709551616) = ((X * 8192 % 18446744073709551616 : Nat) : Int) by omega, bits_xor_u64_nat _ _ hX (by omega), hA]
  have e2 : bits .xor .u64 (A : Int) ((A : Int) / 128) = (B : Int) := by
    rw [show ((A : Int) / 128) = ((A / 128 : Nat) : Int) by omega, bits_xor_u64_nat _ _ lA (by omega), hB]
  have e3 : bits .xor .u64 (B : Int) (IntKind.u64.wrap ((B : Int) * 131072)) = (C : Int) := by
    rw [IntKind.wrap_u64, show ((B : Int) * 131072 % 18446744073709551616) = ((B * 131072 % 18446744073709551616 : Nat) : Int) by omega, bits_xor_u64_nat _ _ lB (by omega), hC]
  have hv : Sort.xorNextN X = C := by unfold Sort.xorNextN; simp only []; rw [← hA, ← hB, ← hC]
  rw [hv]
  clear hA hB hC hv
  have hss : ∀ v v', (w.setCell ⟨q, 0, none⟩ v).setCell ⟨q, 0, none⟩ v' = w.setCell ⟨q, 0, none⟩ v' := setCell_setCell w q 0
  go_enter Try.func58, Try.ntmps58
  go_wp2
  go_region
  all_goals go_wp2
  all_goals go_region
  all_goals go_wp2
  all_goals go_region
  all_goals go_wp2
  go_ret
  exact ⟨rfl, ((HB.out.set C).mods ((Mods.refl [] _).drewN 3) (by simp)), ((Mods.refl [q] w).setCell (.inl (by simp)) _).drewN 3⟩

theorem pow2U (n : Nat) (hn : n < 4611686018427387904) (w : World) :
    Calls Try.prog 57 #[.int .i64 n] w fun e w' => e = .returned (.int .u64 ((1 <<< Sort.bitsLen n : Nat) : Int)) ∧ w' = w := by
  have hLen : ∀ w, Calls Try.prog 37 #[.int .u64 (n : Int)] w fun e w' => e = .returned (.int .i64 (Sort.bitsLen n : Nat)) ∧ w' = w := fun w => by
    have h := Try.bits_Len (n : Int) w (by omega) (by omega)
    rwa [Int.toNat_natCast, bitLen_eq _ (by omega)] at h
  have hk : Sort.bitsLen n ≤ 62 := (Sort.bitsLen_le_iff n 62).2 (by omega)
  have hp := wrap_two_pow (Sort.bitsLen n) hk
  have wr : IntKind.u64.wrap (n : Int) = n := by simp [IntKind.wrap, IntKind.bits, IntKind.signed]; omega
  go_enter Try.func57, Try.ntmps57
  go_wp2_with (first | (go_at_call 37; refine (hLen _).mono ?_; rintro e w' ⟨rfl, rfl⟩))
  go_ret
  exact ⟨rfl, rfl⟩

def bpAt (a L M I0 : Nat) (st0 : UInt64 × Array Int) : Nat → UInt64 × Array Int
  | 0 => st0
  | t + 1 => Sort.breakStep a L M (bpAt a L M I0 st0 t) (I0 + t)
theorem bp_all (d : Array Int) (a b L : Nat) (hL : b - a = L) (h8 : 8 ≤ L) : Sort.breakPatterns d a b = (bpAt a L (1 <<< Sort.bitsLen L) (a + L / 4 * 2 - 1) (UInt64.ofNat L, d) 3).2 := by
  unfold Sort.breakPatterns
  simp only [hL]
  rw [if_pos h8]
  rfl
theorem bp_at {a L M idx T : Nat} {st : UInt64 × Array Int} (h : (if (Sort.xorNext st.1).toNat &&& (M - 1) ≥ L then a + (((Sort.xorNext st.1).toNat &&& (M - 1)) - L) else a + ((Sort.xorNext st.1).toNat &&& (M - 1))) = T) :
    Sort.breakStep a L M st idx = (Sort.xorNext st.1, Sort.swp st.2 idx T) := by
  unfold Sort.breakStep
  simp only
  congr 2
  rw [← h]
  split <;> rfl

set_option maxHeartbeats 4000000 in
theorem breakU (base g n cap a b : Nat) (d : Array Int) (w : World) (hn : n ≤ 1152921504606846975) (hab : a + 12 < b) (hb : b ≤ n) (H : RowU w base g n cap d) (hg : g < w.heap.size) :
    Calls Try.prog 44 #[.slice (some ⟨g, 0, none⟩) n cap, .int .i64 a, .int .i64 b] w
      fun e w' => e = .returned (.tuple #[]) ∧ RowU w' base g n cap (Sort.breakPatterns d a b) ∧ Mods [g] w w' := by
  obtain ⟨L, hL⟩ : ∃ L, b - a = L := ⟨_, rfl⟩
  obtain ⟨M, hM⟩ : ∃ M, 1 <<< Sort.bitsLen L = M := ⟨_, rfl⟩
  obtain ⟨q4, hq⟩ : ∃ q4, L / 4 = q4 := ⟨_, rfl⟩
  obtain ⟨s, hs⟩ : ∃ s, a + q4 * 2 = s := ⟨_, rfl⟩
  obtain ⟨I0, hI⟩ : ∃ I0, s - 1 = I0 := ⟨_, rfl⟩
  obtain ⟨st0, hst⟩ : ∃ st0 : UInt64 × Array Int, (UInt64.ofNat L, d) = st0 := ⟨_, rfl⟩
  have hall := bp_all d a b L hL (by omega)
  rw [hM, hq, hs, hI, hst] at hall
  rw [hall]
  have hL' : (b : Int) - (a : Int) = (L : Int) := by omega
  have hq' : (L : Int) / 4 = (q4 : Int) := by omega
  have hs' : (a : Int) + (q4 : Int) * 2 = (s : Int) := by omega
  have hI' : (s : Int) - 1 = (I0 : Int) := by omega
  have hE' : (s : Int) + 1 = (I0 : Int) + 2 := by omega
  have hd8 : decide ((8 : Int) ≤ (L : Int)) = true := by simp; omega
  have hM1 : L < M := by
    have := (Sort.bitsLen_le_iff L (Sort.bitsLen L)).1 (Nat.le_refl _)
    rw [← hM, Nat.one_shiftLeft]; exact this
  have hM2 : M ≤ 2 * L := by rw [← hM, Nat.one_shiftLeft]; exact Sort.two_pow_bitsLen_le (by omega)
  have hpw := pow2U L (by omega)
  rw [hM] at hpw
  have HPW := Lib.hid hpw
  have hbox : BoxU (w.alloc (.cells #[.int .u64 L] 80)) w.heap.size L := ⟨_, blk_alloc _⟩
  have hrow := H.mods ((Mods.refl [] w).alloc (.cells #[.int .u64 L] 80)) (by simp)
  have hs0 : st0.2 = d := by rw [← hst]
  have hs1 : st0.1.toNat = L := by rw [← hst]; simp; omega
  have HBX := Lib.hid hbox; have HRW := Lib.hid hrow
  have HS0 := Lib.hid hs0; have HS1 := Lib.hid hs1
  have hwL : IntKind.u64.wrap (L : Int) = L := by simp [IntKind.wrap, IntKind.bits, IntKind.signed]; omega
  have hIL : I0 + 2 < b ∧ a ≤ I0 := by omega
  obtain ⟨hI1, hI2⟩ := hIL
  clear hbox hrow hs0 hs1 hst hall hpw H hL hM hq hs hI
  go_enter Try.func44, Try.ntmps44
  go_wp2_with fail
  refine (HPW.out _).mono ?_
  rintro e w1 ⟨rfl, rfl⟩
  clear HPW
  go_wp2_with fail
  go_loopw [9, 10] (fun vi _ wr => ∃ t : Nat, vi = .int .i64 ((I0 : Int) + t) ∧ t ≤ 3 ∧ Hid (RowU wr base g n cap (bpAt a L M I0 st0 t).2) ∧ Hid (BoxU wr w.heap.size (bpAt a L M I0 st0 t).1.toNat) ∧ Hid (Mods [g] w wr)) (fun vi _ _ => ((I0 : Int) + 3 - intOf vi).toNat)
  case atStart => exact ⟨0, by go_num, by omega, by show RowU _ _ _ _ _ st0.2; rw [HS0.out]; exact HRW.out, by show BoxU _ _ st0.1.toNat; rw [HS1.out]; exact HBX.out, (Mods.refl [g] w).alloc _⟩
  case round =>
    obtain ⟨t, rfl, ht, HR, HB, HM⟩ := hrel
    by_cases ht3 : t < 3
    · have hd : decide ((I0 : Int) + (t : Int) ≤ (I0 : Int) + 2) = true := by simp; omega
      have hle : (I0 : Int) + (t : Int) ≤ (I0 : Int) + 2 := by omega
      obtain ⟨R, hR⟩ : ∃ R, (bpAt a L M I0 st0 t).1.toNat = R := ⟨_, rfl⟩
      have hR64 : R < 18446744073709551616 := by rw [← hR]; exact UInt64.toNat_lt _
      obtain ⟨O, hO⟩ : ∃ O, Sort.xorNextN R &&& (M - 1) = O := ⟨_, rfl⟩
      have hOM : O ≤ M - 1 := by rw [← hO]; exact Nat.and_le_right
      have hand : bits .and .u64 ((Sort.xorNextN R : Nat) : Int) ((M : Int) - 1) = (O : Int) := by
        rw [show (M : Int) - 1 = ((M - 1 : Nat) : Int) by omega, bits_and_u64_nat _ _ (Sort.xorNextN_lt R hR64) (by omega), hO]
      have hwO : IntKind.i64.wrap (O : Int) = O := IntWalk.i64_in _ (by omega)
      have hwM : IntKind.u64.wrap ((M : Int) - 1) = (M : Int) - 1 := by simp [IntKind.wrap, IntKind.bits, IntKind.signed]; omega
      have HO := Lib.hid (show (Sort.xorNext (bpAt a L M I0 st0 t).1).toNat &&& (M - 1) = O by rw [Sort.xorNext_toNat, hR, hO])
      have hb1 := HB.out
      rw [hR] at hb1
      have hnx := nextU w.heap.size R hR64 wr hb1
      have HNX := Lib.hid hnx
      have HRN := Lib.hid (show (Sort.xorNext (bpAt a L M I0 st0 t).1).toNat = Sort.xorNextN R by rw [Sort.xorNext_toNat, hR])
      clear hb1 hnx hR hO
      generalize Sort.xorNextN R = R' at *
      obtain ⟨X, hX⟩ : ∃ X, I0 + t = X := ⟨_, rfl⟩
      have hX' : (I0 : Int) + (t : Int) = (X : Int) := by omega
      have HX := Lib.hid hX
      have hXn : (X : Int) < n := by omega
      go_wp2_with fail
      refine HNX.out.mono ?_
      rintro e w2 ⟨rfl, hb2, hm2⟩
      have HR2 := Lib.hid (HR.out.mods hm2 (by simp; omega))
      have HB2 := Lib.hid (show BoxU w2 w.heap.size (Sort.xorNext (bpAt a L M I0 st0 t).1).toNat by rw [HRN.out]; exact hb2)
      have HM2 := Lib.hid (HM.out.trans_new hm2 (by simp))
      clear hb2 hm2 HNX HR HB HM HRN
      by_cases hOL : L ≤ O
      · have hdo : decide ((L : Int) ≤ (O : Int)) = true := by simp; omega
        obtain ⟨P, hP⟩ : ∃ P, O - L = P := ⟨_, rfl⟩
        have hP' : (O : Int) - (L : Int) = (P : Int) := by omega
        obtain ⟨T, hT⟩ : ∃ T, a + P = T := ⟨_, rfl⟩
        have hT' : (a : Int) + (P : Int) = (T : Int) := by omega
        have hTn : (T : Int) < n := by omega
        have hwT : IntKind.i64.wrap (T : Int) = T := IntWalk.i64_in _ (by omega)
        have hwX : IntKind.i64.wrap (X : Int) = X := IntWalk.i64_in _ (by omega)
        obtain ⟨k1, f1⟩ := HR2.out.at_ X (by omega)
        obtain ⟨k2, f2⟩ := HR2.out.at_ T (by omega)
        obtain ⟨k3, f3⟩ := HR2.out.at2 X T (by omega) (by omega)
        have hsw := HR2.out.drew.swp X T
        have hE := bp_at (a := a) (L := L) (M := M) (st := bpAt a L M I0 st0 t) (T := T) (idx := X) (by rw [HO.out]; rw [if_pos hOL, hP, hT])
        have hE2 : bpAt a L M I0 st0 (t + 1) = (Sort.xorNext (bpAt a L M I0 st0 t).1, Sort.swp (bpAt a L M I0 st0 t).2 X T) := (show Sort.breakStep a L M (bpAt a L M I0 st0 t) (I0 + t) = _ by rw [HX.out]; exact hE)
        have HSW := Lib.hid hsw; have HE := Lib.hid hE2
        clear hsw hE hE2 hX
        generalize (bpAt a L M I0 st0 t).2[X]! = x at *
        generalize (bpAt a L M I0 st0 t).2[T]! = y at *
        go_wp2
        go_region
        all_goals go_wp2
        go_roundw
        case rel => first | exact ⟨t + 1, by first | rfl | (congr 1 <;> omega), by omega, by rw [show bpAt a L M I0 st0 (t + 1) = _ from HE.out]; exact HSW.out, by rw [show bpAt a L M I0 st0 (t + 1) = _ from HE.out]; exact HB2.out.mods ((((Mods.refl [g] w2).drew).setCell (p := ⟨g, X, none⟩) (.inl (by simp)) (.int .u32 y)).setCell (p := ⟨g, T, none⟩) (.inl (by simp)) (.int .u32 x)) (by simp; omega), (((HM2.out.drew).setCell (.inl (by simp)) _).setCell (.inl (by simp)) _)⟩ | fail
        case measure => simp [intOf]; omega
      · have hdo : decide ((L : Int) ≤ (O : Int)) = false := by simp; omega
        obtain ⟨T, hT⟩ : ∃ T, a + O = T := ⟨_, rfl⟩
        have hT' : (a : Int) + (O : Int) = (T : Int) := by omega
        have hTn : (T : Int) < n := by omega
        have hwT : IntKind.i64.wrap (T : Int) = T := IntWalk.i64_in _ (by omega)
        have hwX : IntKind.i64.wrap (X : Int) = X := IntWalk.i64_in _ (by omega)
        obtain ⟨k1, f1⟩ := HR2.out.at_ X (by omega)
        obtain ⟨k2, f2⟩ := HR2.out.at_ T (by omega)
        obtain ⟨k3, f3⟩ := HR2.out.at2 X T (by omega) (by omega)
        have hsw := HR2.out.drew.swp X T
        have hE := bp_at (a := a) (L := L) (M := M) (st := bpAt a L M I0 st0 t) (T := T) (idx := X) (by rw [HO.out]; rw [if_neg hOL, hT])
        have hE2 : bpAt a L M I0 st0 (t + 1) = (Sort.xorNext (bpAt a L M I0 st0 t).1, Sort.swp (bpAt a L M I0 st0 t).2 X T) := (show Sort.breakStep a L M (bpAt a L M I0 st0 t) (I0 + t) = _ by rw [HX.out]; exact hE)
        have HSW := Lib.hid hsw; have HE := Lib.hid hE2
        clear hsw hE hE2 hX
        generalize (bpAt a L M I0 st0 t).2[X]! = x at *
        generalize (bpAt a L M I0 st0 t).2[T]! = y at *
        go_wp2
        go_region
        all_goals go_wp2
        go_roundw
        case rel => first | exact ⟨t + 1, by first | rfl | (congr 1 <;> omega), by omega, by rw [show bpAt a L M I0 st0 (t + 1) = _ from HE.out]; exact HSW.out, by rw [show bpAt a L M I0 st0 (t + 1) = _ from HE.out]; exact HB2.out.mods ((((Mods.refl [g] w2).drew).setCell (p := ⟨g, X, none⟩) (.inl (by simp)) (.int .u32 y)).setCell (p := ⟨g, T, none⟩) (.inl (by simp)) (.int .u32 x)) (by simp; omega), (((HM2.out.drew).setCell (.inl (by simp)) _).setCell (.inl (by simp)) _)⟩ | fail
        case measure => simp [intOf]; omega
    · obtain rfl : t = 3 := by omega
      have hd : decide ((I0 : Int) + 3 ≤ (I0 : Int) + 2) = false := by simp
      go_wp2
      go_end0
      exact ⟨rfl, HR.out, HM.out⟩
end Go.Proofs.Ytmgkdlkjcncniaa
