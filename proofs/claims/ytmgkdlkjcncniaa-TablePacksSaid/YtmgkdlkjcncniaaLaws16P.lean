/- Pack and Unpack, the program's and the reference's, side by side: any picture, any table, any width. -/
import Derived.Test.YtmgkdlkjcncniaaTabI
import Derived.Test.YtmgkdlkjcncniaaTab2
import Derived.Test.YtmgkdlkjcncniaaTab7
import Derived.Test.YtmgkdlkjcncniaaRefPk0
import Derived.Test.YtmgkdlkjcncniaaRefPk1
import Derived.Test.YtmgkdlkjcncniaaRefPk2
import Derived.Test.YtmgkdlkjcncniaaRefPk3
import Derived.Test.YtmgkdlkjcncniaaRefUn
import Derived.Test.YtmgkdlkjcncniaaTab8
namespace Go.Proofs.Ytmgkdlkjcncniaa
open Go.RowKit
open Go.Proofs.YtmgkdlkjcncniaaW.PrintWords

theorem refPacked_good (W H : Nat) (A B : Option Addr) (n c m d : Nat) (ps ls : List Int) (wd : World) (HR : ReadsInt wd .u32 A n ps) (HS : ReadsInt wd .u32 B m ls) (hps : ∀ x ∈ ps, 0 ≤ x ∧ x < 4294967296) (hls : ∀ x ∈ ls, 0 ≤ x ∧ x < 4294967296) (h : okP W H n m = true) (V : Nat) (hV : blocksI W (bitsT m) = V) : Calls Try.prog 11 #[.agg #[.int .i64 W, .int .i64 H, .slice A n c], .slice B m d] wd fun e w' => Below wd.heap.size wd w' ∧
    ((∃ t, t < n ∧ fi ls (ps.getD t 0) = none ∧ e = .returned (.tuple #[.agg #[.int .i64 0, .int .i64 0, .slice none 0 0], .bool false])) ∨
    ((∀ t, t < n → found ls ps t) ∧ ∃ A2 c2, e = .returned (.tuple #[.agg #[.int .i64 V, .int .i64 H, .slice A2 (V * H) c2], .bool true]) ∧ ReadsInt w' .u32 A2 (V * H) ((List.range (V * H)).map fun I => (Tb.val W V (bitsT m) (pnum ls ps) n I : Int)))) := by
  have hb := bitsT_le m
  rcases (show bitsT m = 0 ∨ bitsT m = 1 ∨ bitsT m = 2 ∨ bitsT m = 3 by omega) with hb | hb | hb | hb
  · have := refPacked_b0 W H A B n c m d ps ls wd HR HS hps hls h V hV hb
    rw [hb]; exact this
  · have := refPacked_b1 W H A B n c m d ps ls wd HR HS hps hls h V hV hb
    rw [hb]; exact this
  · have := refPacked_b2 W H A B n c m d ps ls wd HR HS hps hls h V hV hb
    rw [hb]; exact this
  · have := refPacked_b3 W H A B n c m d ps ls wd HR HS hps hls h V hV hb
    rw [hb]; exact this
theorem refUnpacked_good (W H w : Nat) (A B : Option Addr) (n c m d : Nat) (ps ls : List Int) (wd : World) (HR : ReadsInt wd .u32 A n ps) (HS : ReadsInt wd .u32 B m ls) (hps : ∀ x ∈ ps, 0 ≤ x ∧ x < 4294967296) (hls : ∀ x ∈ ls, 0 ≤ x ∧ x < 4294967296) (h : okU W H n m w = true) : Calls Try.prog 13 #[.agg #[.int .i64 W, .int .i64 H, .slice A n c], .slice B m d, .int .i64 w] wd fun e w' =>
    ∃ A2 c2, e = .returned (.tuple #[.agg #[.int .i64 w, .int .i64 H, .slice A2 (w * H) c2], .bool true]) ∧ ReadsInt w' .u32 A2 (w * H) ((List.range (w * H)).map (unpPix W w (bitsT m) ps ls)) ∧ Below wd.heap.size wd w' := by
  have hb := bitsT_le m
  rcases (show bitsT m = 0 ∨ bitsT m = 1 ∨ bitsT m = 2 ∨ bitsT m = 3 by omega) with hb | hb | hb | hb
  · have := refUnpacked_b0 W H w A B n c m d ps ls wd HR HS hps hls h hb
    rw [hb]; exact this
  · have := refUnpacked_b1 W H w A B n c m d ps ls wd HR HS hps hls h hb
    rw [hb]; exact this
  · have := refUnpacked_b2 W H w A B n c m d ps ls wd HR HS hps hls h hb
    rw [hb]; exact this
  · have := refUnpacked_b3 W H w A B n c m d ps ls wd HR HS hps hls h hb
    rw [hb]; exact this

def imgPost (V H : Int) (N : Nat) (l : List Int) (s : Value) (w : World) (e : Ending) (w' : World) : Prop :=
  Below w.heap.size w w' ∧ ∃ A2 c2, e = .returned (.tuple #[.agg #[.int .i64 V, .int .i64 H, .slice A2 N c2], s]) ∧ ReadsInt w' .u32 A2 N l
theorem reads_none (w : World) : ReadsInt w .u32 none 0 [] := ⟨rfl, by simp, fun h => absurd h (Nat.lt_irrefl 0)⟩

theorem packs_all (W H : Int) (A B : Option Addr) (n c m d : Nat) (ps ls : List Int) (w0 : World) (HS0 : ReadsInt w0 .u32 B m ls) (hps : ∀ x ∈ ps, 0 ≤ x ∧ x < 4294967296) (hls : ∀ x ∈ ls, 0 ≤ x ∧ x < 4294967296) :
    ∃ (ok : Bool) (s : Int) (V1 H1 : Int) (N1 : Nat) (l1 : List Int), (ok = true ∧ s = 0 ∨ ok = false ∧ s = 1) ∧
      (∀ wz, ReadsInt wz .u32 A n ps → ReadsInt wz .u32 B m ls → Calls Try.prog 10 #[.agg #[.int .i64 W, .int .i64 H, .slice A n c], .slice B m d] wz (imgPost V1 H1 N1 l1 (.int .i64 s) wz)) ∧
      (∀ wz, ReadsInt wz .u32 A n ps → ReadsInt wz .u32 B m ls → Calls Try.prog 11 #[.agg #[.int .i64 W, .int .i64 H, .slice A n c], .slice B m d] wz (imgPost V1 H1 N1 l1 (.bool ok) wz)) := by
  cases hok : okP W H n m with
  | false =>
    refine ⟨false, 1, 0, 0, 0, [], .inr ⟨rfl, rfl⟩, fun wz _ _ => ?_, fun wz _ _ => ?_⟩
    · refine (pack_bad W H A B n c m d wz hok).mono ?_
      rintro e w' ⟨rfl, hB⟩
      exact ⟨hB, none, 0, rfl, reads_none _⟩
    · refine (refPacked_bad W H A B n c m d wz hok).mono ?_
      rintro e w' ⟨rfl, hB⟩
      exact ⟨hB, none, 0, rfl, reads_none _⟩
  | true =>
    have hk := hok
    unfold okP at hk
    obtain ⟨hg, ht⟩ : goodI W H n = true ∧ goodT m = true := by simpa using hk
    unfold goodI at hg
    obtain ⟨hW1, hW2, hH1, hH2, hn⟩ := of_decide_eq_true hg
    unfold goodT at ht
    obtain ⟨hm1, hm2⟩ := of_decide_eq_true ht
    obtain ⟨W, rfl⟩ : ∃ W' : Nat, W = W' := ⟨W.toNat, by omega⟩
    obtain ⟨H, rfl⟩ : ∃ H' : Nat, H = H' := ⟨H.toNat, by omega⟩
    obtain ⟨V, hV⟩ : ∃ V : Nat, blocksI W (bitsT m) = V := ⟨(blocksI W (bitsT m)).toNat, by
      unfold blocksI
      have h2 : (0 : Int) < 2 ^ bitsT m := Int.pow_pos (by omega)
      have : (0 : Int) ≤ ((W : Int) + 2 ^ bitsT m - 1) / 2 ^ bitsT m := Int.ediv_nonneg (by omega) (by omega)
      omega⟩
    obtain ⟨ad, rfl, _⟩ := HS0.2.2 (by omega)
    by_cases hall : ∀ j, j < n → found ls ps j
    · refine ⟨true, 0, V, H, V * H, (List.range (V * H)).map (fun I => (Tb.val W V (bitsT m) (pnum ls ps) n I : Int)), .inl ⟨rfl, rfl⟩, fun wz h1 h2 => ?_, fun wz h1 h2 => ?_⟩
      · refine (pack_good W H A ad n c m d ps ls wz h1 h2 hps hls (block_of h2 (by omega)) hok V hV).mono ?_
        rintro e w' ⟨hB, ⟨t, q1, q2, _⟩ | ⟨_, g, _, rfl, hr⟩⟩
        · have := hall t q1; unfold found at this; rw [q2] at this; cases this
        · exact ⟨hB, _, _, rfl, hr⟩
      · refine (refPacked_good W H A (some ad) n c m d ps ls wz h1 h2 hps hls hok V hV).mono ?_
        rintro e w' ⟨hB, ⟨t, q1, q2, _⟩ | ⟨_, A2, c2, rfl, hr⟩⟩
        · have := hall t q1; unfold found at this; rw [q2] at this; cases this
        · exact ⟨hB, A2, c2, rfl, hr⟩
    · refine ⟨false, 1, 0, 0, 0, [], .inr ⟨rfl, rfl⟩, fun wz h1 h2 => ?_, fun wz h1 h2 => ?_⟩
      · refine (pack_good W H A ad n c m d ps ls wz h1 h2 hps hls (block_of h2 (by omega)) hok V hV).mono ?_
        rintro e w' ⟨hB, ⟨t, q1, q2, rfl⟩ | ⟨hf, _⟩⟩
        · exact ⟨hB, none, 0, rfl, reads_none _⟩
        · exact absurd hf hall
      · refine (refPacked_good W H A (some ad) n c m d ps ls wz h1 h2 hps hls hok V hV).mono ?_
        rintro e w' ⟨hB, ⟨t, q1, q2, rfl⟩ | ⟨hf, _⟩⟩
        · exact ⟨hB, none, 0, rfl, reads_none _⟩
        · exact absurd hf hall

theorem unpacks_all (W H w : Int) (A B : Option Addr) (n c m d : Nat) (ps ls : List Int) (w0 : World) (HS0 : ReadsInt w0 .u32 B m ls) (hps : ∀ x ∈ ps, 0 ≤ x ∧ x < 4294967296) (hls : ∀ x ∈ ls, 0 ≤ x ∧ x < 4294967296) :
    ∃ (ok : Bool) (s : Int) (V1 H1 : Int) (N1 : Nat) (l1 : List Int), (ok = true ∧ s = 0 ∨ ok = false ∧ s = 1) ∧
      (∀ wz, ReadsInt wz .u32 A n ps → ReadsInt wz .u32 B m ls → Calls Try.prog 12 #[.agg #[.int .i64 W, .int .i64 H, .slice A n c], .slice B m d, .int .i64 w] wz (imgPost V1 H1 N1 l1 (.int .i64 s) wz)) ∧
      (∀ wz, ReadsInt wz .u32 A n ps → ReadsInt wz .u32 B m ls → Calls Try.prog 13 #[.agg #[.int .i64 W, .int .i64 H, .slice A n c], .slice B m d, .int .i64 w] wz (imgPost V1 H1 N1 l1 (.bool ok) wz)) := by
  have hm0 : (m : Int) ≤ 9223372036854775807 := by have := HS0.2.1; omega
  cases hok : okU W H n m w with
  | false =>
    refine ⟨false, 1, 0, 0, 0, [], .inr ⟨rfl, rfl⟩, fun wz _ _ => ?_, fun wz _ _ => ?_⟩
    · refine (unpack_bad W H w A B n c m d wz hm0 hok).mono ?_
      rintro e w' ⟨rfl, hB⟩
      exact ⟨hB, none, 0, rfl, reads_none _⟩
    · refine (refUnpacked_bad W H w A B n c m d wz hm0 hok).mono ?_
      rintro e w' ⟨rfl, hB⟩
      exact ⟨hB, none, 0, rfl, reads_none _⟩
  | true =>
    obtain ⟨hg, ht, hw1, hw2, hbl⟩ := okU_parts hok
    unfold goodI at hg
    obtain ⟨hW1, hW2, hH1, hH2, hn⟩ := of_decide_eq_true hg
    obtain ⟨W, rfl⟩ : ∃ W' : Nat, W = W' := ⟨W.toNat, by omega⟩
    obtain ⟨H, rfl⟩ : ∃ H' : Nat, H = H' := ⟨H.toNat, by omega⟩
    obtain ⟨w, rfl⟩ : ∃ H' : Nat, w = H' := ⟨w.toNat, by omega⟩
    refine ⟨true, 0, w, H, w * H, (List.range (w * H)).map (unpPix W w (bitsT m) ps ls), .inl ⟨rfl, rfl⟩, fun wz h1 h2 => ?_, fun wz h1 h2 => ?_⟩
    · refine (unpack_good W H w A B n c m d ps ls wz h1 h2 hps hls hok).mono ?_
      rintro e w' ⟨g, rfl, hO, hB⟩
      exact ⟨hB, _, _, rfl, own_reads' hO⟩
    · refine (refUnpacked_good W H w A B n c m d ps ls wz h1 h2 hps hls hok).mono ?_
      rintro e w' ⟨A2, c2, rfl, hr, hB⟩
      exact ⟨hB, A2, c2, rfl, hr⟩
end Go.Proofs.Ytmgkdlkjcncniaa

/- The law TablePacks. -/
namespace Go.Proofs.Ytmgkdlkjcncniaa
open Go.RowKit
open Go.Proofs.YtmgkdlkjcncniaaW.PrintWords

/-- What stands where an image's box was laid behind a call. -/
theorem box_laid {B : Nat} {w0 w w' : World} (hB : Below B w0 w) (hs : B ≤ w.heap.size) (hb : Below w.heap.size w w') (xs : Array Value) (t : TypeId) :
    Below B w0 (w'.alloc (.cells xs t)) ∧ Below w.heap.size w (w'.alloc (.cells xs t)) ∧ B ≤ (w'.alloc (.cells xs t)).heap.size := by
  have h1 := hb.alloc hb.size (.cells xs t)
  exact ⟨below_then hB hs h1, h1, by have := h1.size; omega⟩

set_option maxRecDepth 100000 in
set_option maxHeartbeats 8000000 in
theorem law_TablePacks (W H u : Int) (A B : Option Addr) (n c m d : Nat) (ps ls : List Int) (w : World) (HR : ReadsInt w .u32 A n ps) (HS : ReadsInt w .u32 B m ls) (hps : ∀ x ∈ ps, 0 ≤ x ∧ x < 4294967296) (hls : ∀ x ∈ ls, 0 ≤ x ∧ x < 4294967296) :
    Calls Try.prog 4 #[.agg #[.int .i64 W, .int .i64 H, .slice A n c], .slice B m d, .int .i64 u] w fun e w' => e = .returned (.bool true) ∧ Below w.heap.size w w' := by
  obtain ⟨ok1, s1, V1, H1, N1, l1, ho1, hp1, hq1⟩ := packs_all W H A B n c m d ps ls w HS hps hls
  obtain ⟨ok2, s2, V2, H2, N2, l2, ho2, hp2, hq2⟩ := unpacks_all W H u A B n c m d ps ls w HS hps hls
  have HP1 := Lib.hid hp1; have HQ1 := Lib.hid hq1; have HP2 := Lib.hid hp2; have HQ2 := Lib.hid hq2
  have hnew := alloc_new w #[.int .i64 W, .int .i64 H, .slice A n c] 24
  have hb0 := (Below.refl _ w).alloc (Nat.le_refl _) (.cells #[.int .i64 W, .int .i64 H, .slice A n c] 24)
  have HR1 := Lib.hid (HR.below (show Below w.heap.size w _ from hb0))
  have HS1 := Lib.hid (HS.below (show Below w.heap.size w _ from hb0))
  obtain ⟨X, hX⟩ : ∃ X, w.heap.size = X := ⟨_, rfl⟩
  rw [hX] at hnew hb0
  have HN := Lib.hid hnew; have HB := Lib.hid hb0; have HX := Lib.hid hX
  clear HR HS hps hls hnew hb0 hp1 hq1 hp2 hq2
  by_cases hbig : 2000 < n ∨ (¬ 2000 < n ∧ 400 < m) ∨ (¬ 2000 < n ∧ ¬ 400 < m ∧ 3000 < u)
  · rcases hbig with h1 | ⟨h1, h2⟩ | ⟨h1, h2, h3⟩
    · have z1 : decide ((2000 : Int) < (n : Int)) = true := by simp; omega
      go_enter Try.func4, Try.ntmps4
      go_wp2_with fail
      refine (answers16 _).mono ?_
      rintro e w6 ⟨rfl, hB6⟩
      go_wp2_with fail
      go_ret
      exact ⟨rfl, by rw [hX]; exact below_then HB.out (by simp; omega) hB6⟩
    · have z1 : decide ((2000 : Int) < (n : Int)) = false := by simp; omega
      have z2 : decide ((400 : Int) < (m : Int)) = true := by simp; omega
      go_enter Try.func4, Try.ntmps4
      go_wp2_with fail
      refine (answers16 _).mono ?_
      rintro e w6 ⟨rfl, hB6⟩
      go_wp2_with fail
      go_ret
      exact ⟨rfl, by rw [hX]; exact below_then HB.out (by simp; omega) hB6⟩
    · have z1 : decide ((2000 : Int) < (n : Int)) = false := by simp; omega
      have z2 : decide ((400 : Int) < (m : Int)) = false := by simp; omega
      have z3 : decide ((3000 : Int) < u) = true := by simp; omega
      go_enter Try.func4, Try.ntmps4
      go_wp2_with fail
      refine (answers16 _).mono ?_
      rintro e w6 ⟨rfl, hB6⟩
      go_wp2_with fail
      go_ret
      exact ⟨rfl, by rw [hX]; exact below_then HB.out (by simp; omega) hB6⟩
  have z1 : decide ((2000 : Int) < (n : Int)) = false := by simp; omega
  have z2 : decide ((400 : Int) < (m : Int)) = false := by simp; omega
  have z3 : decide ((3000 : Int) < u) = false := by simp; omega
  clear hbig
  obtain ⟨i0, i1, i2, _, _, _⟩ := box3 HN.out
  rcases ho1 with ⟨rfl, rfl⟩ | ⟨rfl, rfl⟩ <;> rcases ho2 with ⟨rfl, rfl⟩ | ⟨rfl, rfl⟩
  all_goals
    go_enter Try.func4, Try.ntmps4
    go_wp2_with fail
    generalize w.alloc (.cells #[.int .i64 W, .int .i64 H, .slice A n c] 24) = w1 at *
    have hX1 : X ≤ w1.heap.size := by have := HB.out.size; have := HX.out; omega
    refine (HP1.out w1 HR1.out HS1.out).mono ?_
    rintro e w2 ⟨hB3, A3, c3, rfl, hr3⟩
    have hb3 := (Below.refl _ w2).alloc (Nat.le_refl _) (.cells #[.int .i64 V1, .int .i64 H1, .slice A3 N1 c3] 24)
    have h3 := hB3.trans (hb3.mono hB3.size)
    have HR3 := Lib.hid (HR1.out.below h3); have HS3 := Lib.hid (HS1.out.below h3)
    have HN_3 := Lib.hid ((Mods.of_below h3 []).blk HN.out (by simp))
    have T3_3 := Lib.hid (hr3.below hb3)
    have Z3_3 := Lib.hid (alloc_new w2 #[.int .i64 V1, .int .i64 H1, .slice A3 N1 c3] 24)
    have HB3 := Lib.hid (below_then HB.out hX1 h3)
    obtain ⟨Y3, hY3⟩ : ∃ Y, w2.heap.size = Y := ⟨_, rfl⟩
    rw [hY3] at Z3_3
    have HY3 := Lib.hid hY3
    clear h3 hB3 hb3 hr3 hY3 i0 i1 i2
    obtain ⟨i0, i1, i2, _, _, _⟩ := box3 HN_3.out
    obtain ⟨p30, p31, p32, _, _, _⟩ := box3 Z3_3.out
    go_wp2_with fail
    rw [HY3.out]
    generalize w2.alloc (.cells #[.int .i64 V1, .int .i64 H1, .slice A3 N1 c3] 24) = w3 at *
    have hX3 : X ≤ w3.heap.size := by have := HB3.out.size; omega
    refine (HQ1.out w3 HR3.out HS3.out).mono ?_
    rintro e w4 ⟨hB5, A5, c5, rfl, hr5⟩
    have hb5 := (Below.refl _ w4).alloc (Nat.le_refl _) (.cells #[.int .i64 V1, .int .i64 H1, .slice A5 N1 c5] 24)
    have h5 := hB5.trans (hb5.mono hB5.size)
    have HR5 := Lib.hid (HR3.out.below h5); have HS5 := Lib.hid (HS3.out.below h5)
    have HN_5 := Lib.hid ((Mods.of_below h5 []).blk HN_3.out (by simp))
    have Z3_5 := Lib.hid ((Mods.of_below h5 []).blk Z3_3.out (by simp))
    have T3_5 := Lib.hid (T3_3.out.below h5)
    have T5_5 := Lib.hid (hr5.below hb5)
    have Z5_5 := Lib.hid (alloc_new w4 #[.int .i64 V1, .int .i64 H1, .slice A5 N1 c5] 24)
    have HB5 := Lib.hid (below_then HB3.out hX3 h5)
    obtain ⟨Y5, hY5⟩ : ∃ Y, w4.heap.size = Y := ⟨_, rfl⟩
    rw [hY5] at Z5_5
    have HY5 := Lib.hid hY5
    clear h5 hB5 hb5 hr5 hY5 i0 i1 i2 p30 p31 p32
    obtain ⟨i0, i1, i2, _, _, _⟩ := box3 HN_5.out
    obtain ⟨p30, p31, p32, _, _, _⟩ := box3 Z3_5.out
    obtain ⟨p50, p51, p52, _, _, _⟩ := box3 Z5_5.out
    go_wp2_with fail
    rw [HY5.out]
    generalize w4.alloc (.cells #[.int .i64 V1, .int .i64 H1, .slice A5 N1 c5] 24) = w5 at *
    have hX5 : X ≤ w5.heap.size := by have := HB5.out.size; omega
    refine (HP2.out w5 HR5.out HS5.out).mono ?_
    rintro e w6 ⟨hB7, A7, c7, rfl, hr7⟩
    have hb7 := (Below.refl _ w6).alloc (Nat.le_refl _) (.cells #[.int .i64 V2, .int .i64 H2, .slice A7 N2 c7] 24)
    have h7 := hB7.trans (hb7.mono hB7.size)
    have HR7 := Lib.hid (HR5.out.below h7); have HS7 := Lib.hid (HS5.out.below h7)
    have HN_7 := Lib.hid ((Mods.of_below h7 []).blk HN_5.out (by simp))
    have Z3_7 := Lib.hid ((Mods.of_below h7 []).blk Z3_5.out (by simp))
    have Z5_7 := Lib.hid ((Mods.of_below h7 []).blk Z5_5.out (by simp))
    have T3_7 := Lib.hid (T3_5.out.below h7)
    have T5_7 := Lib.hid (T5_5.out.below h7)
    have T7_7 := Lib.hid (hr7.below hb7)
    have Z7_7 := Lib.hid (alloc_new w6 #[.int .i64 V2, .int .i64 H2, .slice A7 N2 c7] 24)
    have HB7 := Lib.hid (below_then HB5.out hX5 h7)
    obtain ⟨Y7, hY7⟩ : ∃ Y, w6.heap.size = Y := ⟨_, rfl⟩
    rw [hY7] at Z7_7
    have HY7 := Lib.hid hY7
    clear h7 hB7 hb7 hr7 hY7 i0 i1 i2 p30 p31 p32 p50 p51 p52
    obtain ⟨i0, i1, i2, _, _, _⟩ := box3 HN_7.out
    obtain ⟨p30, p31, p32, _, _, _⟩ := box3 Z3_7.out
    obtain ⟨p50, p51, p52, _, _, _⟩ := box3 Z5_7.out
    obtain ⟨p70, p71, p72, _, _, _⟩ := box3 Z7_7.out
    go_wp2_with fail
    rw [HY7.out]
    generalize w6.alloc (.cells #[.int .i64 V2, .int .i64 H2, .slice A7 N2 c7] 24) = w7 at *
    have hX7 : X ≤ w7.heap.size := by have := HB7.out.size; omega
    refine (HQ2.out w7 HR7.out HS7.out).mono ?_
    rintro e w8 ⟨hB9, A9, c9, rfl, hr9⟩
    have hb9 := (Below.refl _ w8).alloc (Nat.le_refl _) (.cells #[.int .i64 V2, .int .i64 H2, .slice A9 N2 c9] 24)
    have h9 := hB9.trans (hb9.mono hB9.size)
    have HR9 := Lib.hid (HR7.out.below h9); have HS9 := Lib.hid (HS7.out.below h9)
    have HN_9 := Lib.hid ((Mods.of_below h9 []).blk HN_7.out (by simp))
    have Z3_9 := Lib.hid ((Mods.of_below h9 []).blk Z3_7.out (by simp))
    have Z5_9 := Lib.hid ((Mods.of_below h9 []).blk Z5_7.out (by simp))
    have Z7_9 := Lib.hid ((Mods.of_below h9 []).blk Z7_7.out (by simp))
    have T3_9 := Lib.hid (T3_7.out.below h9)
    have T5_9 := Lib.hid (T5_7.out.below h9)
    have T7_9 := Lib.hid (T7_7.out.below h9)
    have T9_9 := Lib.hid (hr9.below hb9)
    have Z9_9 := Lib.hid (alloc_new w8 #[.int .i64 V2, .int .i64 H2, .slice A9 N2 c9] 24)
    have HB9 := Lib.hid (below_then HB7.out hX7 h9)
    obtain ⟨Y9, hY9⟩ : ∃ Y, w8.heap.size = Y := ⟨_, rfl⟩
    rw [hY9] at Z9_9
    have HY9 := Lib.hid hY9
    clear h9 hB9 hb9 hr9 hY9 i0 i1 i2 p30 p31 p32 p50 p51 p52 p70 p71 p72
    obtain ⟨i0, i1, i2, _, _, _⟩ := box3 HN_9.out
    obtain ⟨p30, p31, p32, _, _, _⟩ := box3 Z3_9.out
    obtain ⟨p50, p51, p52, _, _, _⟩ := box3 Z5_9.out
    obtain ⟨p70, p71, p72, _, _, _⟩ := box3 Z7_9.out
    obtain ⟨p90, p91, p92, _, _, _⟩ := box3 Z9_9.out
    go_wp2_with fail
    rw [HY9.out]
    generalize w8.alloc (.cells #[.int .i64 V2, .int .i64 H2, .slice A9 N2 c9] 24) = w9 at *
    have hX9 : X ≤ w9.heap.size := by have := HB9.out.size; omega
    refine (answers16 w9).mono ?_
    rintro e w10 ⟨rfl, h10⟩
    have HN_10 := Lib.hid ((Mods.of_below h10 []).blk HN_9.out (by simp))
    have Z3_10 := Lib.hid ((Mods.of_below h10 []).blk Z3_9.out (by simp))
    have Z5_10 := Lib.hid ((Mods.of_below h10 []).blk Z5_9.out (by simp))
    have Z7_10 := Lib.hid ((Mods.of_below h10 []).blk Z7_9.out (by simp))
    have Z9_10 := Lib.hid ((Mods.of_below h10 []).blk Z9_9.out (by simp))
    have T3_10 := Lib.hid (T3_9.out.below h10)
    have T5_10 := Lib.hid (T5_9.out.below h10)
    have T7_10 := Lib.hid (T7_9.out.below h10)
    have T9_10 := Lib.hid (T9_9.out.below h10)
    have HB10 := Lib.hid (below_then HB9.out hX9 h10)
    clear h10 i0 i1 i2 p30 p31 p32 p50 p51 p52 p70 p71 p72 p90 p91 p92
    obtain ⟨i0, i1, i2, _, _, _⟩ := box3 HN_10.out
    obtain ⟨p30, p31, p32, _, _, _⟩ := box3 Z3_10.out
    obtain ⟨p50, p51, p52, _, _, _⟩ := box3 Z5_10.out
    obtain ⟨p70, p71, p72, _, _, _⟩ := box3 Z7_10.out
    obtain ⟨p90, p91, p92, _, _, _⟩ := box3 Z9_10.out
    have hX10 : X ≤ w10.heap.size := by have := HB10.out.size; omega
    go_wp2_with fail
    refine (same_same V1 H1 A3 A5 N1 c3 c5 l1 w10 T3_10.out T5_10.out).mono ?_
    rintro e w11 ⟨rfl, h11⟩
    have HN_11 := Lib.hid ((Mods.of_below h11 []).blk HN_10.out (by simp))
    have Z3_11 := Lib.hid ((Mods.of_below h11 []).blk Z3_10.out (by simp))
    have Z5_11 := Lib.hid ((Mods.of_below h11 []).blk Z5_10.out (by simp))
    have Z7_11 := Lib.hid ((Mods.of_below h11 []).blk Z7_10.out (by simp))
    have Z9_11 := Lib.hid ((Mods.of_below h11 []).blk Z9_10.out (by simp))
    have T3_11 := Lib.hid (T3_10.out.below h11)
    have T5_11 := Lib.hid (T5_10.out.below h11)
    have T7_11 := Lib.hid (T7_10.out.below h11)
    have T9_11 := Lib.hid (T9_10.out.below h11)
    have HB11 := Lib.hid (below_then HB10.out hX10 h11)
    clear h11 i0 i1 i2 p30 p31 p32 p50 p51 p52 p70 p71 p72 p90 p91 p92
    obtain ⟨i0, i1, i2, _, _, _⟩ := box3 HN_11.out
    obtain ⟨p30, p31, p32, _, _, _⟩ := box3 Z3_11.out
    obtain ⟨p50, p51, p52, _, _, _⟩ := box3 Z5_11.out
    obtain ⟨p70, p71, p72, _, _, _⟩ := box3 Z7_11.out
    obtain ⟨p90, p91, p92, _, _, _⟩ := box3 Z9_11.out
    have hX11 : X ≤ w11.heap.size := by have := HB11.out.size; omega
    go_wp2_with fail
    refine (same_same V2 H2 A7 A9 N2 c7 c9 l2 w11 T7_11.out T9_11.out).mono ?_
    rintro e w12 ⟨rfl, h12⟩
    have HN_12 := Lib.hid ((Mods.of_below h12 []).blk HN_11.out (by simp))
    have Z3_12 := Lib.hid ((Mods.of_below h12 []).blk Z3_11.out (by simp))
    have Z5_12 := Lib.hid ((Mods.of_below h12 []).blk Z5_11.out (by simp))
    have Z7_12 := Lib.hid ((Mods.of_below h12 []).blk Z7_11.out (by simp))
    have Z9_12 := Lib.hid ((Mods.of_below h12 []).blk Z9_11.out (by simp))
    have T3_12 := Lib.hid (T3_11.out.below h12)
    have T5_12 := Lib.hid (T5_11.out.below h12)
    have T7_12 := Lib.hid (T7_11.out.below h12)
    have T9_12 := Lib.hid (T9_11.out.below h12)
    have HB12 := Lib.hid (below_then HB11.out hX11 h12)
    clear h12 i0 i1 i2 p30 p31 p32 p50 p51 p52 p70 p71 p72 p90 p91 p92
    obtain ⟨i0, i1, i2, _, _, _⟩ := box3 HN_12.out
    obtain ⟨p30, p31, p32, _, _, _⟩ := box3 Z3_12.out
    obtain ⟨p50, p51, p52, _, _, _⟩ := box3 Z5_12.out
    obtain ⟨p70, p71, p72, _, _, _⟩ := box3 Z7_12.out
    obtain ⟨p90, p91, p92, _, _, _⟩ := box3 Z9_12.out
    have hX12 : X ≤ w12.heap.size := by have := HB12.out.size; omega
    go_wp2_with fail
    go_ret
    exact ⟨rfl, by have := HX.out; rw [this]; exact HB12.out⟩
end Go.Proofs.Ytmgkdlkjcncniaa
