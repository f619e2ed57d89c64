/- The law TableColors. -/
import Derived.Test.YtmgkdlkjcncniaaTabV
import Derived.Test.YtmgkdlkjcncniaaRefSub
import Derived.Test.YtmgkdlkjcncniaaRefCol1
import Derived.Test.YtmgkdlkjcncniaaTab8
namespace Go.Proofs.Ytmgkdlkjcncniaa
open Go.RowKit
open Go.Proofs.YtmgkdlkjcncniaaW.PrintWords

def colPost (ok : Bool) (N : Nat) (l : List Int) (w : World) (e : Ending) (w' : World) : Prop :=
  Below w.heap.size w w' ∧ ∃ A2 c2, e = .returned (.tuple #[.slice A2 N c2, .bool ok]) ∧ ReadsInt w' .u32 A2 N l
theorem reads_none' (w : World) : ReadsInt w .u32 none 0 [] := ⟨rfl, by simp, fun h => absurd h (Nat.lt_irrefl 0)⟩
theorem colors_all (W H : Int) (A : Option Addr) (n c : Nat) (ps : List Int) (hn : n ≤ 100000) (hps : ∀ x ∈ ps, 0 ≤ x ∧ x < 4294967296) :
    ∃ (ok : Bool) (N : Nat) (l : List Int),
      (∀ wz, ReadsInt wz .u32 A n ps → Calls Try.prog 9 #[.agg #[.int .i64 W, .int .i64 H, .slice A n c]] wz (colPost ok N l wz)) ∧
      (∀ wz, ReadsInt wz .u32 A n ps → Calls Try.prog 15 #[.agg #[.int .i64 W, .int .i64 H, .slice A n c]] wz (colPost ok N l wz)) := by
  cases hg : goodI W H n with
  | false =>
    refine ⟨false, 0, [], fun wz _ => ?_, fun wz _ => ?_⟩
    · refine (colors_bad W H A n c wz hg).mono ?_
      rintro e w' ⟨rfl, hB⟩
      exact ⟨hB, none, 0, rfl, reads_none' _⟩
    · refine (refColors_bad W H A n c wz hg).mono ?_
      rintro e w' ⟨rfl, hB⟩
      exact ⟨hB, none, 0, rfl, reads_none' _⟩
  | true =>
    by_cases hm : (Tb.cols ps).length ≤ 256
    · refine ⟨true, (Tb.cols ps).length, Tb.cols ps, fun wz hr => ?_, fun wz hr => ?_⟩
      · refine (colors_good W H A n c ps wz hr hps hg).mono ?_
        rintro e w' ⟨hB, ⟨h, _⟩ | ⟨_, g, _, rfl, hr⟩⟩
        · omega
        · exact ⟨hB, _, _, rfl, hr⟩
      · refine (refColors_good W H A n c ps wz hr hn hg).mono ?_
        rintro e w' ⟨hB, ⟨h, _⟩ | ⟨_, A2, c2, rfl, hr⟩⟩
        · omega
        · exact ⟨hB, _, _, rfl, hr⟩
    · refine ⟨false, 0, [], fun wz hr => ?_, fun wz hr => ?_⟩
      · refine (colors_good W H A n c ps wz hr hps hg).mono ?_
        rintro e w' ⟨hB, ⟨_, rfl⟩ | ⟨h, _⟩⟩
        · exact ⟨hB, none, 0, rfl, reads_none' _⟩
        · omega
      · refine (refColors_good W H A n c ps wz hr hn hg).mono ?_
        rintro e w' ⟨hB, ⟨_, rfl⟩ | ⟨h, _⟩⟩
        · exact ⟨hB, none, 0, rfl, reads_none' _⟩
        · omega

set_option maxRecDepth 100000 in
set_option maxHeartbeats 8000000 in
theorem law_TableColors (W H u : Int) (A B : Option Addr) (n c m d : Nat) (ps ls : List Int) (w : World) (HR : ReadsInt w .u32 A n ps) (HS : ReadsInt w .u32 B m ls) (hps : ∀ x ∈ ps, 0 ≤ x ∧ x < 4294967296) (hls : ∀ x ∈ ls, 0 ≤ x ∧ x < 4294967296) :
    Calls Try.prog 7 #[.agg #[.int .i64 W, .int .i64 H, .slice A n c], .slice B m d, .int .i64 u] w fun e w' => e = .returned (.bool true) ∧ Below w.heap.size w w' := by
  have hnew := alloc_new w #[.int .i64 W, .int .i64 H, .slice A n c] 24
  have hb0 := (Below.refl _ w).alloc (Nat.le_refl _) (.cells #[.int .i64 W, .int .i64 H, .slice A n c] 24)
  have HR1 := Lib.hid (HR.below (show Below w.heap.size w _ from hb0))
  have HS1 := Lib.hid (HS.below (show Below w.heap.size w _ from hb0))
  obtain ⟨X, hX⟩ : ∃ X, w.heap.size = X := ⟨_, rfl⟩
  rw [hX] at hnew hb0
  have HN := Lib.hid hnew; have HB := Lib.hid hb0; have HX := Lib.hid hX
  have HPS := Lib.hid hps; have HLS := Lib.hid hls
  have HLL := Lib.hid HS.1
  clear HR HS hps hls hnew hb0
  by_cases hbig : 3000 < n ∨ (¬ 3000 < n ∧ 1000 < m)
  · rcases hbig with h1 | ⟨h1, h2⟩
    · have z1 : decide ((3000 : Int) < (n : Int)) = true := by simp; omega
      go_enter Try.func7, Try.ntmps7
      go_wp2_with fail
      refine (answers16 _).mono ?_
      rintro e w6 ⟨rfl, hB6⟩
      go_wp2_with fail
      go_ret
      exact ⟨rfl, by rw [hX]; exact below_then HB.out (by simp; omega) hB6⟩
    · have z1 : decide ((3000 : Int) < (n : Int)) = false := by simp; omega
      have z2 : decide ((1000 : Int) < (m : Int)) = true := by simp; omega
      go_enter Try.func7, Try.ntmps7
      go_wp2_with fail
      refine (answers16 _).mono ?_
      rintro e w6 ⟨rfl, hB6⟩
      go_wp2_with fail
      go_ret
      exact ⟨rfl, by rw [hX]; exact below_then HB.out (by simp; omega) hB6⟩
  have z1 : decide ((3000 : Int) < (n : Int)) = false := by simp; omega
  have z2 : decide ((1000 : Int) < (m : Int)) = false := by simp; omega
  have hm : m ≤ 1000 := by omega
  obtain ⟨ok, N, l, hp, hq⟩ := colors_all W H A n c ps (by omega) HPS.out
  have HP := Lib.hid hp; have HQ := Lib.hid hq
  clear hbig hp hq
  obtain ⟨i0, i1, i2, _, _, _⟩ := box3 HN.out
  have hne : (ok != ok) = false := by cases ok <;> rfl
  go_enter Try.func7, Try.ntmps7
  go_wp2_with fail
  generalize w.alloc (.cells #[.int .i64 W, .int .i64 H, .slice A n c] 24) = w1 at *
  have hX1 : X ≤ w1.heap.size := by have := HB.out.size; omega
  refine (HP.out w1 HR1.out).mono ?_
  rintro e w2 ⟨hB2, A2, c2, rfl, hr2⟩
  have HR2 := Lib.hid (HR1.out.below hB2); have HS2 := Lib.hid (HS1.out.below hB2)
  have HN2 := Lib.hid ((Mods.of_below hB2 []).blk HN.out (by simp))
  have HT2 := Lib.hid hr2
  have HB2 := Lib.hid (below_then HB.out hX1 hB2)
  have hX2 : X ≤ w2.heap.size := by have := HB2.out.size; omega
  clear hB2 hr2 i0 i1 i2
  obtain ⟨i0, i1, i2, _, _, _⟩ := box3 HN2.out
  go_wp2_with fail
  refine (HQ.out w2 HR2.out).mono ?_
  rintro e w3 ⟨hB3, A3, c3, rfl, hr3⟩
  have HS3 := Lib.hid (HS2.out.below hB3)
  have HT3 := Lib.hid (HT2.out.below hB3); have HU3 := Lib.hid hr3
  have HB3 := Lib.hid (below_then HB2.out hX2 hB3)
  have hX3 : X ≤ w3.heap.size := by have := HB3.out.size; omega
  clear hB3 hr3 i0 i1 i2
  go_wp2_with fail
  refine (forth_any B m d ls w3 HS3.out HLS.out (by omega)).mono ?_
  rintro e w4 ⟨A4, c4, rfl, hr4, hB4⟩
  have HS4 := Lib.hid (HS3.out.below hB4); have HT4 := Lib.hid (HT3.out.below hB4); have HU4 := Lib.hid (HU3.out.below hB4)
  have HF4 := Lib.hid hr4
  have HB4 := Lib.hid (below_then HB3.out hX3 hB4)
  have hX4 : X ≤ w4.heap.size := by have := HB4.out.size; omega
  clear hB4 hr4
  go_wp2_with fail
  refine (answers16 w4).mono ?_
  rintro e w5 ⟨rfl, hB5⟩
  have HS5 := Lib.hid (HS4.out.below hB5); have HT5 := Lib.hid (HT4.out.below hB5); have HU5 := Lib.hid (HU4.out.below hB5); have HF5 := Lib.hid (HF4.out.below hB5)
  have HB5 := Lib.hid (below_then HB4.out hX4 hB5)
  have hX5 : X ≤ w5.heap.size := by have := HB5.out.size; omega
  clear hB5
  go_wp2_with fail
  refine (pixels_same A2 A3 N c2 c3 l w5 HT5.out HU5.out).mono ?_
  rintro e w6 ⟨rfl, hB6⟩
  have HS6 := Lib.hid (HS5.out.below hB6); have HF6 := Lib.hid (HF5.out.below hB6)
  have HB6 := Lib.hid (below_then HB5.out hX5 hB6)
  clear hB6
  go_wp2_with fail
  refine (bitsI_any u w6).mono ?_
  rintro e w' ⟨rfl, rfl⟩
  go_wp2_with fail
  refine (refPack_any u w6).mono ?_
  rintro e w' ⟨rfl, rfl⟩
  go_wp2_with fail
  go_loopw [12, 13] (fun iv _ wr => ∃ k : Nat, k ≤ m ∧ iv = .int .i64 k ∧ Hid (ReadsInt wr .u32 B m ls) ∧ Hid (ReadsInt wr .u32 A4 m (forS ls m 0)) ∧ Hid (Below X w wr)) (fun iv _ _ => m - (intOf iv).toNat)
  case atStart => exact ⟨0, Nat.zero_le _, rfl, HS6, HF6, HB6⟩
  case round =>
    clear HS6 HF6 HB6 HB5 HB4 HB3 HB2 HB HS5 HT5 HU5 HF5 HS4 HT4 HU4 HF4 HS3 HT3 HU3 HS2 HR2 HT2 HS1 HR1 HP HQ
    obtain ⟨k, hk, rfl, HS6, HF6, HB6⟩ := hrel
    by_cases hkm : k < m
    · obtain ⟨bd, hbd, hbc⟩ := HS6.out.2.2 (by omega)
      subst hbd
      obtain ⟨fd, hfd, hfc⟩ := HF6.out.2.2 (by omega)
      subst hfd
      have c1 := hbc k hkm
      have f1 := hfc k hkm
      rw [forS_getD ls m k hkm] at f1
      have e1 : (k : Int) < (m : Int) := by omega
      have e2 : (0 : Int) ≤ (k : Int) := by omega
      have hXr : X ≤ wr.heap.size := by have := HB6.out.size; have := HX.out; omega
      by_cases hk0 : 0 < k
      · rw [if_pos hk0] at f1
        have c2 := hbc (k - 1) (by omega)
        have hx1 := getD_room HLS.out k
        have hx2 := getD_room HLS.out (k - 1)
        generalize ls.getD k 0 = x1 at *
        generalize ls.getD (k - 1) 0 = x2 at *
        have F1 := Lib.hid f1
        clear hbc hfc f1
        obtain ⟨q, hq⟩ : ∃ q, k - 1 = q := ⟨_, rfl⟩
        rw [hq] at c2
        have e3 : IntKind.i64.wrap ((k : Int) - 1) = (q : Int) := by rw [IntWalk.i64_in _ (by omega)]; omega
        have e5 : (0 : Int) ≤ (q : Int) := by omega
        have e6 : (q : Int) < (m : Int) := by omega
        clear hq
        go_upto_region 13 with fail
        go_region_held3 (fun w' => w'.cell? (bd.add k) = some (.int .u32 x1) ∧ w'.cell? (bd.add q) = some (.int .u32 x2)) ((first | exact ⟨c1, c2⟩ | exact ⟨cc1, cc2⟩ | go_keep)) ((go_at_call 20; refine (refSub_any x1 x2 _ hx1 hx2).mono ?_; rintro e w7 ⟨rfl, hB7⟩; have cc1 := pw_cell_below hB7 c1; have cc2 := pw_cell_below hB7 c2; have HB7 := Lib.hid (show Below wr.heap.size wr w7 from below_then (below_drew (Below.refl _ wr)) (Nat.le_refl _) hB7); clear hB7))
        have F7 := pw_cell_below HB7.out F1.out
        have HS7 := Lib.hid (HS6.out.below HB7.out); have HF7 := Lib.hid (HF6.out.below HB7.out)
        have HB8 := Lib.hid (below_then HB6.out hXr HB7.out)
        clear c1 c2 cc1 cc2
        go_wp2_with fail
        go_roundw
        case rel => exact ⟨k + 1, by omega, by go_num, HS7, HF7, HB8⟩
        case measure => simp [intOf]; omega
      · rw [if_neg hk0] at f1
        have e9 : decide ((0 : Int) < (k : Int)) = false := by simp; omega
        generalize ls.getD k 0 = x1 at *
        clear hbc hfc
        go_wp2_with fail
        go_roundw
        case rel => exact ⟨k + 1, by omega, by go_num, HS6, HF6, HB6⟩
        case measure => simp [intOf]; omega
    · obtain rfl : k = m := by omega
      have hXr : X ≤ wr.heap.size := by have := HB6.out.size; have := HX.out; omega
      go_wp2_with fail
      refine (back_any A4 k c4 (forS ls k 0) wr HF6.out (forS_lt ls HLS.out k 0) (by omega)).mono ?_
      rintro e w7 ⟨A7, c7, rfl, hr7, hB7⟩
      rw [back_forth ls k HLL.out HLS.out] at hr7
      have HT7 := Lib.hid hr7; have HS7 := Lib.hid (HS6.out.below hB7)
      have HB7 := Lib.hid (below_then HB6.out hXr hB7)
      have hX7 : X ≤ w7.heap.size := by have := HB7.out.size; have := HX.out; omega
      clear hr7 hB7
      go_wp2_with fail
      refine (pixels_same A7 B k c7 d ls w7 HT7.out HS7.out).mono ?_
      rintro e w8 ⟨rfl, hB8⟩
      have HS8 := Lib.hid (HS7.out.below hB8)
      have HB8 := Lib.hid (below_then HB7.out hX7 hB8)
      have hX8 : X ≤ w8.heap.size := by have := HB8.out.size; have := HX.out; omega
      clear hB8
      go_wp2_with fail
      refine (back_any B k d ls w8 HS8.out HLS.out (by omega)).mono ?_
      rintro e w9 ⟨A9, c9, rfl, hr9, hB9⟩
      have HT9 := Lib.hid hr9; have HS9 := Lib.hid (HS8.out.below hB9)
      have HB9 := Lib.hid (below_then HB8.out hX8 hB9)
      have hX9 : X ≤ w9.heap.size := by have := HB9.out.size; have := HX.out; omega
      clear hr9 hB9
      go_wp2_with fail
      refine (forth_any A9 k c9 (bakS ls k k) w9 HT9.out (bakS_lt ls HLS.out k k) (by omega)).mono ?_
      rintro e w10 ⟨A10, c10, rfl, hr10, hB10⟩
      rw [forth_back ls k HLL.out HLS.out] at hr10
      have HT10 := Lib.hid hr10; have HS10 := Lib.hid (HS9.out.below hB10)
      have HB10 := Lib.hid (below_then HB9.out hX9 hB10)
      have hX10 : X ≤ w10.heap.size := by have := HB10.out.size; have := HX.out; omega
      clear hr10 hB10
      go_wp2_with fail
      refine (pixels_same A10 B k c10 d ls w10 HT10.out HS10.out).mono ?_
      rintro e w11 ⟨rfl, hB11⟩
      have HB11 := Lib.hid (below_then HB10.out hX10 hB11)
      clear hB11
      go_wp2_with fail
      go_ret
      exact ⟨rfl, by have := HX.out; rw [this]; exact HB11.out⟩
end Go.Proofs.Ytmgkdlkjcncniaa
