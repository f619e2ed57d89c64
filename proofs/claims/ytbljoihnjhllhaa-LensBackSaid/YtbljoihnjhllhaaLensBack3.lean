/- The reference's Lens, of any bits: lengths by steps. -/
import Derived.Test.YtbljoihnjhllhaaLensBack2
import Derived.Test.YtbljoihnjhllhaaLensFlat25
import Derived.Test.YtbljoihnjhllhaaLensFlat6
import Derived.Deep.RegionHeld3
namespace Go.Proofs.Ytbljoihnjhllhaa
open Go.RowKit
open Go.Proofs.YtbljoihnjhllhaaW.PrintWords
open Srt

theorem raw_most {bs : List Int} {p n : Nat} {m : Int} {p' : Nat} {e' : Int} (h0 : headE bs p = 0) (h : MostR bs (headP bs p) 0 n m p' e') (hm : 0 ≤ m) : (e' ≠ 0 → rawF bs p n = .err e') ∧ (e' = 0 → rawF bs p n = stepsF (headS bs p) bs n m.toNat p' 8 []) := by
  unfold rawF
  rw [if_neg (fun q => q h0)]
  simp only
  rcases most_all h hm with ⟨a, b, c⟩ | ⟨a, b, c, d, e⟩
  · refine ⟨fun _ => ?_, fun q => absurd q a⟩
    by_cases hC : 8 * bs.length < (mostF bs n (headP bs p)).1 ∨ (mostF bs n (headP bs p)).2.2 = false
    · rw [if_pos hC, b, if_pos hC]
    · rw [if_neg hC, if_pos (c hC), b, if_neg hC]
  · refine ⟨fun q => absurd a q, fun _ => ?_⟩
    rw [if_neg b, if_neg c, d, e, Int.toNat_natCast]
/-- What the rounds know. -/
structure NormE (w wq : World) (g : Nat) (A : Option Addr) (bs : List Int) (GS GC k : Nat) (sh : List Int) (R : Res) (m pq : Nat) (last : Int) (o : List Int) : Prop where
  res : stepsF sh bs k m pq last o = R
  len : o.length ≤ k
  own : BlkI wq w.heap.size (padS k o)
  eye : EyE wq g A bs pq 0
  shr : BlkI wq GS sh
  cod : ReadsInt wq .u32 (some ⟨GC, 0, none⟩) 19 (codesS sh)
  mods : Mods [g] w wq
theorem stepsF_end {sh bs : List Int} {k m pq : Nat} {last : Int} {o : List Int} (h : m = 0 ∨ k ≤ o.length) : stepsF sh bs k m pq last o = .ok (padS k o) pq := by
  cases m with
  | zero => rfl
  | succ m =>
    unfold stepsF
    rcases h with q | q
    · omega
    · rw [if_pos q]
theorem sym_e19 (g : Nat) (ls : List Int) (A : Option Addr) (C : Option Addr) (X : Option Addr) (bs : List Int) (p n s : Nat) (w : World) (hl : ls.length = 19) (HR : ReadsInt w .i64 A 19 ls) (HC : ReadsInt w .u32 C 19 (codesS ls)) (hA : ∀ ad, A = some ad → ad.block ≠ g) (hC : ∀ ad, C = some ad → ad.block ≠ g) (hz : checkS ls = 0) (hs : Sym ls bs p n s) (h : EyE w g X bs p 0) :
    Calls Try.prog 28 #[.slice A 19 19, .slice C 19 19, .pointer (some ⟨g, 0, none⟩)] w (fun en w' => Mods [g] w w' ∧ ((p + n ≤ 8 * bs.length ∧ en = .returned (.int .i64 s) ∧ EyE w' g X bs (p + n) 0) ∨ (8 * bs.length < p + n ∧ en = .returned (.int .i64 (-1)) ∧ EyE w' g X bs p 2))) := by
  have h1 := sym_e g ls A 19 C 19 X bs p n s w (by rw [hl]; exact HR) (by rw [hl]; exact HC) hA hC (by omega) hz hs h
  rw [hl] at h1; exact h1
theorem blk_reads {w : World} {b k : Nat} {l : List Int} (h : BlkI w b l) (hl : l.length = k) (hk : k ≤ 9223372036854775807) : ReadsInt w .i64 (some ⟨b, 0, none⟩) k l := by
  have h1 := h.reads (by omega)
  rwa [hl] at h1
set_option maxRecDepth 100000 in
set_option maxHeartbeats 64000000 in
theorem ref_lens_norm (g : Nat) (A : Option Addr) (bs : List Int) (p k : Nat) (w : World) (h : Eye w g A bs p false) (hA : ∀ ad, A = some ad → ad.block < w.heap.size) (hk1 : 1 ≤ k) (hk : k ≤ 4096) (hb : ¬ (p + 1 ≤ 8 * bs.length ∧ bitAt bs p = 1)) :
    Calls Try.prog 13 #[.pointer (some ⟨g, 0, none⟩), .int .i64 k] w (RLPost g A bs p k w) := by
  have hgl := h.lt
  have HE := Lib.hid (show EyE w g A bs p 0 from ⟨p, h, fun _ => rfl⟩)
  have HA := Lib.hid hA; have HB := Lib.hid hb
  have hmk := print_make (P := Try.prog) 22 3 .i64 8 Try.underlying22 info_int (by decide) k (by omega)
  have hmk19 : ∀ W, (Instr.makeSlice 22 (.int .i64 19) (.int .i64 19)).run Try.prog W = .ok (.slice (some ⟨W.heap.size, 0, none⟩) 19 19) (W.alloc (.cells (madeCells #[.int .i64 0] 19) 3)) := fun W => print_make (P := Try.prog) 22 3 .i64 8 Try.underlying22 info_int (by decide) 19 (by omega) W
  clear h hA hb
  go_enter Try.func13, Try.ntmps13
  go_wp2_with fail
  rw [made_blk]
  have HK := Lib.hid (show BlkI (w.alloc (.cells ((List.replicate k (0 : Int)).map (Value.int .i64)).toArray 3)) w.heap.size (zeros k) from alloc_new _ _ _)
  have HM := Lib.hid (show Mods [g] w (w.alloc (.cells ((List.replicate k (0 : Int)).map (Value.int .i64)).toArray 3)) from (Mods.refl _ _).alloc _)
  have HE1 := Lib.hid (HE.out.mods ((Mods.refl [] w).alloc (.cells ((List.replicate k (0 : Int)).map (Value.int .i64)).toArray 3)) (by simp) (by simp))
  have hz1 : (w.alloc (.cells ((List.replicate k (0 : Int)).map (Value.int .i64)).toArray 3)).heap.size = w.heap.size + 1 := by simp
  generalize w.alloc (.cells ((List.replicate k (0 : Int)).map (Value.int .i64)).toArray 3) = w1 at *
  clear hmk
  refine (num_e g A bs p 0 1 w1 HE1.out (.inl rfl) (by omega) (by omega)).mono ?_
  rintro en w2 ⟨v, p2, e2, rfl, hE2, hM2, hN2, _, _, he2⟩
  have hv0 : v = 0 := by
    rcases hN2.fine with ⟨_, a, _⟩ | ⟨a, b, _⟩
    · exact a
    · rw [bitsVal_one] at b
      have := bitAt_bounds bs p
      have hne : bitAt bs p ≠ 1 := fun q => HB.out ⟨a, q⟩
      omega
  subst hv0
  have hz2 := hM2.size
  have HN2 := Lib.hid (show (e2 = 0 ∧ p2 = p + 1 ∧ p + 1 ≤ 8 * bs.length ∧ bitAt bs p ≠ 1) ∨ (e2 = 2 ∧ 8 * bs.length < p + 1) from by
    rcases hN2.fine with ⟨a, _, _, d⟩ | ⟨a, b, c, d⟩
    · exact .inr ⟨d, a⟩
    · rw [bitsVal_one] at b; exact .inl ⟨d, c, a, by omega⟩)
  have HE2 := Lib.hid hE2; have HK2 := Lib.hid (HK.out.mods hM2 (by simp; omega)); have HM2 := Lib.hid (HM.out.trans hM2); have HX2 := Lib.hid he2
  clear hE2 hM2 hN2 he2
  go_wp2_with fail
  rw [made_blk]
  have HO0 := Lib.hid (show BlkI ((w2.alloc (.cells ((List.replicate 19 (0 : Int)).map (Value.int .i64)).toArray 3)).alloc (.cells (ordL.map (Value.int .i64)).toArray 3)) (w2.heap.size + 1) ordL from by
    have h := alloc_new (w2.alloc (.cells ((List.replicate 19 (0 : Int)).map (Value.int .i64)).toArray 3)) (ordL.map (Value.int .i64)).toArray 3
    rw [World.size_alloc] at h; exact h)
  have HS0 := Lib.hid (show BlkI ((w2.alloc (.cells ((List.replicate 19 (0 : Int)).map (Value.int .i64)).toArray 3)).alloc (.cells (ordL.map (Value.int .i64)).toArray 3)) w2.heap.size (List.replicate 19 0) from
    (show BlkI (w2.alloc (.cells ((List.replicate 19 (0 : Int)).map (Value.int .i64)).toArray 3)) w2.heap.size (List.replicate 19 0) from alloc_new _ _ _).mods ((Mods.refl [] _).alloc _) (by simp))
  have hma : Mods [] w2 ((w2.alloc (.cells ((List.replicate 19 (0 : Int)).map (Value.int .i64)).toArray 3)).alloc (.cells (ordL.map (Value.int .i64)).toArray 3)) := ((Mods.refl _ _).alloc _).alloc _
  have HE3 := Lib.hid (HE2.out.mods hma (by simp) (by simp)); have HK3 := Lib.hid (HK2.out.mods hma (by simp)); have HM3 := Lib.hid (HM2.out.trans (hma.mono (by simp)))
  rw [show (#[Value.int .i64 17, .int .i64 18, .int .i64 0, .int .i64 1, .int .i64 2, .int .i64 3, .int .i64 4, .int .i64 5, .int .i64 16, .int .i64 6, .int .i64 7, .int .i64 8, .int .i64 9, .int .i64 10, .int .i64 11, .int .i64 12, .int .i64 13, .int .i64 14, .int .i64 15] : Array Value) = (ordL.map (Value.int .i64)).toArray from rfl]
  obtain ⟨GS, hGS⟩ : ∃ GS, w2.heap.size = GS := ⟨_, rfl⟩
  have hz3 : ((w2.alloc (.cells ((List.replicate 19 (0 : Int)).map (Value.int .i64)).toArray 3)).alloc (.cells (ordL.map (Value.int .i64)).toArray 3)).heap.size = GS + 2 := by rw [World.size_alloc, World.size_alloc, hGS]
  rw [hGS] at HO0 HS0
  rw [hGS]
  have hgs : w.heap.size < GS := by omega
  generalize (w2.alloc (.cells ((List.replicate 19 (0 : Int)).map (Value.int .i64)).toArray 3)).alloc (.cells (ordL.map (Value.int .i64)).toArray 3) = w3 at *
  clear hma hGS hmk19
  have hAf : ∀ ad, A = some ad → ad.block < w.heap.size := HA.out
  refine (num_e g A bs p2 e2 4 w3 HE3.out HX2.out (by omega) (by omega)).mono ?_
  rintro en w4 ⟨v4, p4, e4, rfl, hE4, hM4, hN4, hv4a, hv4b, he4⟩
  obtain ⟨kk, rfl⟩ := Int.eq_ofNat_of_zero_le hv4a
  have hkk : kk < 16 := by have : ((kk : Nat) : Int) < 16 := hv4b; omega
  have HE4 := Lib.hid hE4; have HK4 := Lib.hid (HK3.out.mods hM4 (by simp; omega)); have HM4 := Lib.hid (HM3.out.trans hM4); have HX4 := Lib.hid he4; have HN4 := Lib.hid hN4
  have HS4 := Lib.hid (HS0.out.mods hM4 (by simp; omega)); have HO4 := Lib.hid (HO0.out.mods hM4 (by simp; omega))
  have hz4 := hM4.size
  clear hE4 hM4 hN4 hv4a hv4b he4 hAf
  have HSH0 := Lib.hid (show ShL bs p4 e4 0 p4 e4 (List.replicate 19 0) from ⟨by simp, by simp, fun h => ⟨h, by omega, by have h2 := HE4.out; rw [h] at h2; exact h2.fine.1, rfl⟩, fun h => .inl ⟨h, rfl⟩⟩)
  go_wp2_with fail
  go_loopw [14] (fun iv wr => ∃ (i pp : Nat) (ee : Int) (sh : List Int), i ≤ kk + 4 ∧ iv = .int .i64 i ∧ (ee = 0 ∨ ee = 2) ∧ GS + 2 ≤ wr.heap.size ∧ Hid (EyE wr g A bs pp ee) ∧ Hid (ShL bs p4 e4 i pp ee sh) ∧ Hid (BlkI wr GS sh) ∧ Hid (BlkI wr (GS + 1) ordL) ∧ Hid (BlkI wr w.heap.size (zeros k)) ∧ Hid (Mods [g] w wr)) (fun iv _ => kk + 4 - (intOf iv).toNat)
  case atStart => exact ⟨0, p4, e4, _, by omega, rfl, HX4.out, by omega, HE4, HSH0, HS4, HO4, HK4, HM4⟩
  case round =>
    clear HE4 HSH0 HS4 HO4 HK4 HM4
    obtain ⟨i, pp, ee, sh, hi, rfl, hee, hzr, HEr, HSHr, HSr, HOr, HKr, HMr⟩ := hrel
    by_cases hlt : i < kk + 4
    · have d1 : decide ((i : Int) < (kk : Int) + 4) = true := decide_eq_true (by omega)
      obtain ⟨oi, hoi⟩ : ∃ oi, ord19.getD i 0 = oi := ⟨_, rfl⟩
      have ho := ordL_at i (by omega)
      rw [hoi] at ho
      obtain ⟨ho1, ho2⟩ := ho
      have hco : wr.cell? ⟨GS + 1, i, none⟩ = some (.int .i64 oi) := by rw [HOr.out.at i (by simp [ordL]; omega), ho1]
      have hfs := free_blk HSr.out oi
      have hsl := HSHr.out.1
      obtain ⟨x, hcs⟩ : ∃ x, wr.cell? ⟨GS, oi, none⟩ = some (.int .i64 x) := ⟨_, HSr.out.at oi (by omega)⟩
      have d2 : (i : Int) < 19 := by omega
      have d3 : (0 : Int) ≤ (i : Int) := by omega
      have d4 : (oi : Int) < 19 := by omega
      have d5 : (0 : Int) ≤ (oi : Int) := by omega
      have HOI := Lib.hid hoi
      have HEE := Lib.hid hee
      clear ho1 hoi hsl
      go_wp2_with fail
      go_region_held3 (fun w' => w'.cell? ⟨GS + 1, i, none⟩ = some (.int .i64 oi)) ((first | exact hco | exact hco7 | exact hco8 _)) ((go_at_call 26; refine (num_e g A bs pp ee 3 _ (by first | exact HEr.out | exact HEr.out.mods ((Mods.refl [] wr).drew) (by simp) (by simp)) HEE.out (by omega) (by omega)).mono ?_; rintro en w7 ⟨v7, p7, e7, rfl, hE7, hM7, hN7, hv7a, hv7b, he7⟩; have hM7' : Mods [g] wr w7 := ((Mods.refl [g] wr).drew).trans hM7; have HE7 := Lib.hid hE7; have HM7 := Lib.hid hM7'; have HN7 := Lib.hid (HSHr.out.next (by rw [HOI.out] at *; exact hN7) ⟨hv7a, hv7b⟩); have hco7 := mods_cell hM7' hco (by simp; omega); have hco8 := fun u => mods_cell (show Mods [GS] w7 (w7.setCell ⟨GS, oi, none⟩ u) from (Mods.refl _ _).setCell (by simp) _) hco7 (by simp); have hfs7 := free_blk (HSr.out.mods hM7' (by simp; omega)) oi; have hcs7 := mods_cell hM7' hcs (by simp; omega); clear hE7 hM7 hM7' hN7))
      go_wp2_with fail
      go_roundw
      case rel =>
        have hm8 : Mods [GS] w7 (w7.setCell ⟨GS, oi, none⟩ (.int .i64 v7)) := (Mods.refl _ _).setCell (by simp) _
        refine ⟨i + 1, p7, e7, sh.set oi v7, by omega, by go_num, he7, by have := HM7.out.size; simp; omega, Lib.hid (HE7.out.mods hm8 (by simp; omega) (fun ad e => by have := HA.out ad e; simp; omega)), Lib.hid (by have h := HN7.out; rw [HOI.out] at h; exact h), Lib.hid ((HSr.out.mods HM7.out (by simp; omega)).set oi v7), Lib.hid ((HOr.out.mods HM7.out (by simp; omega)).mods hm8 (by simp)), Lib.hid ((HKr.out.mods HM7.out (by simp; omega)).mods hm8 (by simp; omega)), Lib.hid ((HMr.out.trans HM7.out).trans_new hm8 (by simp; omega))⟩
      case measure => simp [intOf]; omega
    · have d1 : decide ((i : Int) < (kk : Int) + 4) = false := decide_eq_false (by omega)
      obtain rfl : i = kk + 4 := by omega
      have HHA := Lib.hid (fun e' h1 h2 => head_all (e' := e') HN4.out HSHr.out h1 h2)
      have hsh := HEr.out.short
      have HLE := Lib.hid (show ∀ e, e ≠ 0 → e2 = 0 → rawF bs (p + 1) k = .err e → lensF bs p k = .err e from fun e he h0 hs => by
        rcases HN2.out with ⟨_, _, q3, q4⟩ | ⟨q1, _⟩
        · have h := lensF_nought (e := e) (out := []) (q := 0) q3 q4 (by rw [hs]; unfold resE; rw [if_neg he])
          rw [if_neg he] at h; exact h
        · omega)
      have HL2 := Lib.hid (show e2 ≠ 0 → lensF bs p k = .err 2 from fun h => by
        rcases HN2.out with ⟨q, _⟩ | ⟨_, q2⟩
        · exact absurd q h
        · unfold lensF; rw [if_pos q2])
      have HPP := Lib.hid (show e2 = 0 → p2 = p + 1 from fun h => by
        rcases HN2.out with ⟨_, q, _⟩ | ⟨q1, _⟩
        · exact q
        · omega)
      clear d1 hlt
      by_cases hee0 : ee = 0
      · subst hee0
        have hsh' : wr.cell? ⟨g, 2, none⟩ = some (.bool false) := hsh
        clear hsh
        have hsl := HSHr.out.1
        have HRS := Lib.hid (show ReadsInt wr .i64 (some ⟨GS, 0, none⟩) 19 sh from by have h := HSr.out.reads (by rw [hsl]; decide); rwa [hsl] at h)
        have HSL := Lib.hid hsl
        clear hsl
        go_wp2_with fail
        refine (refCheck_any (some ⟨GS, 0, none⟩) 19 19 sh wr HRS.out (by omega)).mono ?_
        rintro en w' ⟨rfl, rfl⟩
        by_cases hck : checkS sh = 0
        · have hh := HHA.out 0 (fun h => absurd rfl h) (fun _ => by rw [if_pos hck])
          have he20 : e2 = 0 ∧ 0 = headE bs p2 := by
            rcases hh.1 with ⟨a, b⟩ | h
            · exact absurd b.symm a
            · exact h
          obtain ⟨rfl, hhe⟩ := he20
          obtain rfl := HPP.out rfl
          obtain ⟨_, hhp, hhs⟩ := hh.2 rfl
          have HLE0 := Lib.hid (fun e he hs => HLE.out e he rfl hs)
          have HLO0 := Lib.hid (show ∀ out q, rawF bs (p + 1) k = .ok out q → lensF bs p k = if checkS out = 0 then .ok out q else .err 3 from fun out q hs => by
            rcases HN2.out with ⟨_, _, q3, q4⟩ | ⟨q1, _⟩
            · have h := lensF_nought (e := 0) (out := out) (q := q) q3 q4 (by rw [hs]; rfl)
              rw [if_pos rfl] at h; exact h
            · omega)
          have HHE := Lib.hid hhe.symm; have HHP := Lib.hid hhp; have HHS := Lib.hid hhs; have HCK := Lib.hid hck
          clear hh hhe hhp hhs
          rw [hck]
          go_wp2_with fail
          refine (refCodes_any (some ⟨GS, 0, none⟩) 19 19 sh wr HRS.out (by omega) HCK.out).mono ?_
          rintro en w9 ⟨rfl, hO9, hB9⟩
          have hm9 : Mods [] wr w9 := Mods.of_below hB9 []
          have hC9 : ReadsInt w9 .u32 (some ⟨wr.heap.size, 0, none⟩) 19 (codesS sh) := by
            obtain ⟨A', c', he', hr⟩ := own_reads hO9
            cases he'
            exact hr
          obtain ⟨GC, hGC⟩ : ∃ GC, wr.heap.size = GC := ⟨_, rfl⟩
          have hgc : GS + 2 ≤ GC := by omega
          have HE9 := Lib.hid (HEr.out.mods hm9 (by simp) (by simp)); have HS9 := Lib.hid (HSr.out.mods hm9 (by simp)); have HK9 := Lib.hid (HKr.out.mods hm9 (by simp)); have HM9 := Lib.hid (HMr.out.trans (hm9.mono (by simp)))
          rw [hGC] at hC9 ⊢
          have HC9 := Lib.hid hC9
          clear hO9 hB9 hm9 hC9 hGC hsh' HHA
          go_wp2_with fail
          refine (num_e g A bs pp 0 1 w9 HE9.out (.inl rfl) (by omega) (by omega)).mono ?_
          rintro en w10 ⟨v1, p10, e10, rfl, hE10, hM10, hN10, hv1a, hv1b, he10⟩
          have HE10 := Lib.hid hE10; have HS10 := Lib.hid (HS9.out.mods hM10 (by simp; omega)); have HK10 := Lib.hid (HK9.out.mods hM10 (by simp; omega)); have HM10 := Lib.hid (HM9.out.trans hM10); have HC10 := Lib.hid (ReadsInt.mods HC9.out hM10 (fun ad h => by cases h; simp; omega)); have HX10 := Lib.hid he10; have HN10 := Lib.hid hN10
          clear hE10 hM10 hN10 he10 HE9 HS9 HK9 HM9 HC9
          by_cases hv1 : v1 = 1
          · subst hv1
            go_wp2_with fail
            refine (num_e g A bs p10 e10 3 w10 HE10.out HX10.out (by omega) (by omega)).mono ?_
            rintro en w11 ⟨v2, p11, e11, rfl, hE11, hM11, hN11, hv2a, hv2b, he11⟩
            obtain ⟨vv, rfl⟩ := Int.eq_ofNat_of_zero_le hv2a
            have hvv : vv < 8 := by have : ((vv : Nat) : Int) < 8 := hv2b; omega
            have HE11 := Lib.hid hE11; have HS11 := Lib.hid (HS10.out.mods hM11 (by simp; omega)); have HK11 := Lib.hid (HK10.out.mods hM11 (by simp; omega)); have HM11 := Lib.hid (HM10.out.trans hM11); have HC11 := Lib.hid (ReadsInt.mods HC10.out hM11 (fun ad h => by cases h; simp; omega)); have HX11 := Lib.hid he11; have HN11 := Lib.hid hN11
            clear hE11 hM11 hN11 he11 HE10 HS10 HK10 HM10 HC10 hv2a hv2b
            go_wp2_with fail
            obtain ⟨wd, hwd⟩ : ∃ wd, wd = 2 + 2 * vv := ⟨_, rfl⟩
            have hwc : (2 : Int) + 2 * (vv : Int) = (wd : Int) := by omega
            first | rw [hwc] | skip
            refine (num_e g A bs p11 e11 wd w11 HE11.out HX11.out (by omega) (by omega)).mono ?_
            rintro en wt ⟨v3, pt, et, rfl, hEt, hMt, hNt, hv3a, hv3b, heT⟩
            have hv3c : v3 < 65536 := by
              have : (2 : Int) ^ wd ≤ 2 ^ 16 := by exact_mod_cast Nat.pow_le_pow_right (by decide) (by omega)
              omega
            obtain ⟨v3n, rfl⟩ := Int.eq_ofNat_of_zero_le hv3a
            have HEt := Lib.hid hEt; have HSt := Lib.hid (HS11.out.mods hMt (by simp; omega)); have HKt := Lib.hid (HK11.out.mods hMt (by simp; omega)); have HMt := Lib.hid (HM11.out.trans hMt); have HCt := Lib.hid (ReadsInt.mods HC11.out hMt (fun ad h => by cases h; simp; omega)); have HXt := Lib.hid heT
            have HMO := Lib.hid (show MostR bs pp 0 k ((v3n : Int) + 2) pt (if (k : Int) < ((v3n : Int) + 2) then (if et = 0 then 3 else et) else et) from ⟨1, (vv : Int), (v3n : Int), p10, p11, pt, e10, e11, et, HN10.out, .inr ⟨by decide, HN11.out, by rw [Int.toNat_natCast, ← hwd]; exact hNt, rfl, rfl, rfl⟩⟩)
            have hmNb : v3n + 2 ≤ 70000 := by omega
            clear hEt hMt hNt heT HE11 HS11 HK11 HM11 HC11 hv3a hv3b hv3c hwd hwc
            have hst := HEt.out.short
            by_cases het : et = 0
            · subst het
              have hst' : wt.cell? ⟨g, 2, none⟩ = some (.bool false) := hst
              clear hst
              by_cases hbig : k < (v3n + 2)
              · have g1 : decide ((k : Int) < ((v3n : Int) + 2)) = true := decide_eq_true (by omega)
                have g2 : decide (k < (v3n + 2)) = true := decide_eq_true hbig
                have HL := Lib.hid (HLE0.out 3 (by decide) (by
                  have h := HMO.out
                  rw [HHP.out, if_pos (by omega), if_pos rfl] at h
                  exact (raw_most HHE.out h (by omega)).1 (by decide)))
                go_wp2_with fail
                go_ret2
                exact ⟨HMt.out, .inr ⟨3, rfl, by decide, ⟨pt, false, HEt.out.fine⟩, HL.out⟩⟩
              · have g1 : decide ((k : Int) < ((v3n : Int) + 2)) = false := decide_eq_false (by omega)
                have g2 : decide (k < (v3n + 2)) = false := decide_eq_false hbig
                have HRES := Lib.hid (show rawF bs (p + 1) k = stepsF sh bs k (v3n + 2) pt 8 [] from by
                  have h := HMO.out
                  rw [HHP.out, if_neg (by omega)] at h
                  have h2 := (raw_most HHE.out h (by omega)).2 rfl
                  rw [show (((v3n : Int) + 2)).toNat = (v3n + 2) from by omega, ← HHS.out] at h2; exact h2)
                have HN0 := Lib.hid (show NormE w wt g A bs GS GC k sh (rawF bs (p + 1) k) ((v3n + 2) - 0) pt 8 [] from ⟨HRES.out.symm, by simp, by rw [show padS k [] = zeros k from by simp [padS, zeros]]; exact HKt.out, HEt.out, HSt.out, HCt.out, HMt.out⟩)
                clear HRES HKt HEt HSt HCt HMt HMO HXt
                go_wp2_with fail
                clear g1 g2 hst'
                go_loopw [17, 18, 19, 20, 21, 22, 23] (fun lv av sv _ _ _ _ wr => ∃ (st pq : Nat) (last : Int) (o : List Int), st ≤ (v3n + 2) ∧ sv = .int .i64 st ∧ lv = .int .i64 last ∧ av = .int .i64 o.length ∧ Hid (NormE w wr g A bs GS GC k sh (rawF bs (p + 1) k) ((v3n + 2) - st) pq last o)) (fun _ _ sv _ _ _ _ _ => (v3n + 2) - (intOf sv).toNat)
                case atStart => exact ⟨0, pt, 8, [], by omega, rfl, rfl, rfl, HN0⟩
                case round =>
                  clear HN0
                  obtain ⟨st, pq, last, o, hstl, rfl, rfl, rfl, HN⟩ := hrel
                  have holen := HN.out.len
                  by_cases hst : st < (v3n + 2)
                  · have c1 : decide ((st : Int) < ((v3n : Int) + 2)) = true := decide_eq_true (by omega)
                    have c2 : decide (st < (v3n + 2)) = true := decide_eq_true hst
                    by_cases hat : o.length < k
                    · have c3 : decide (((o.length : Nat) : Int) < (k : Int)) = true := decide_eq_true (by omega)
                      have c4 : decide (o.length < k) = true := decide_eq_true hat
                      obtain ⟨m1, hm1⟩ : ∃ m1, (v3n + 2) - st = m1 + 1 := ⟨(v3n + 2) - st - 1, by omega⟩
                      have hsy := sym_is HCK.out bs pq
                      have hhas := sym_has HCK.out hsy
                      obtain ⟨nn, hnn⟩ : ∃ nn, symN sh bs pq = nn := ⟨_, rfl⟩
                      obtain ⟨sy, hsym⟩ : ∃ sy, symS sh bs pq = sy := ⟨_, rfl⟩
                      rw [hnn, hsym] at hsy
                      rw [hsym, HSL.out] at hhas
                      have hsy19 := hhas.1
                      have HTA := Lib.hid (sym_e19 g sh (some ⟨GS, 0, none⟩) (some ⟨GC, 0, none⟩) A bs pq nn sy wr HSL.out (blk_reads HN.out.shr HSL.out (by omega)) HN.out.cod (fun ad h => by cases h; show GS ≠ g; omega) (fun ad h => by cases h; show GC ≠ g; omega) HCK.out hsy HN.out.eye)
                      have hst0 := stepsF_next sh bs k m1 pq last o hat
                      rw [hnn, hsym] at hst0
                      have HST := Lib.hid (show _ = rawF bs (p + 1) k from hst0.symm.trans (by rw [← hm1]; exact HN.out.res))
                      have HM1 := Lib.hid hm1
                      clear hsy hhas hnn hsym hst0 hm1
                      go_wp2_with fail
                      refine HTA.out.mono ?_
                      rintro en wa ⟨hMa, hcase⟩
                      have HOa := Lib.hid (HN.out.own.mods hMa (by simp; omega)); have HSa := Lib.hid (HN.out.shr.mods hMa (by simp; omega)); have HCa := Lib.hid (ReadsInt.mods HN.out.cod hMa (fun ad h => by cases h; simp; omega)); have HMa := Lib.hid (HN.out.mods.trans hMa)
                      clear hMa HTA
                      rcases hcase with ⟨hq1, rfl, hEa⟩ | ⟨hq1, rfl, hEa⟩
                      · have HEa := Lib.hid hEa
                        clear hEa
                        have s0 : decide ((sy : Int) < 0) = false := decide_eq_false (by omega)
                        by_cases h16 : sy = 16
                        · skip
                          have HSYK := Lib.hid (show (sy : Int) = 16 from by omega)
                          have k16 : ((sy : Int) == 16) = true := beq_iff_eq.2 (by omega)
                          have k17 : ((sy : Int) == 17) = false := beq_eq_false_iff_ne.2 (by omega)
                          have k18 : ((sy : Int) == 18) = false := beq_eq_false_iff_ne.2 (by omega)
                          have z1 : decide ((0 : Int) < (sy : Int)) = true := decide_eq_true (by omega)
                          have z2 : decide ((sy : Int) < 16) = false := decide_eq_false (by omega)
                          clear h16
                          have HW := Lib.hid (show (Lw.wid (sy : Int)).toNat = 2 from by rw [HSYK.out]; rfl)
                          go_wp2_with fail
                          refine (num_e g A bs (pq + nn) 0 2 wa HEa.out (.inl rfl) (by omega) (by omega)).mono ?_
                          rintro en wz ⟨v6, p6, e6, rfl, hE6, hM6, hN6, hv6a, hv6b, he6⟩
                          obtain ⟨v6n, rfl⟩ := Int.eq_ofNat_of_zero_le hv6a
                          have hv6c : v6n < 4 := by have : ((v6n : Nat) : Int) < 4 := hv6b; omega
                          have HEz := Lib.hid hE6; have HOz := Lib.hid (HOa.out.mods hM6 (by simp; omega)); have HSz := Lib.hid (HSa.out.mods hM6 (by simp; omega)); have HCz := Lib.hid (ReadsInt.mods HCa.out hM6 (fun ad h => by cases h; simp; omega)); have HMz := Lib.hid (HMa.out.trans hM6)
                          have hstz := hE6.short
                          rw [HW.out] at HST
                          by_cases he60 : e6 = 0
                          · subst he60
                            have hstz' : wz.cell? ⟨g, 2, none⟩ = some (.bool false) := hstz
                            clear hstz
                            have hfine : pq + nn + 2 ≤ 8 * bs.length ∧ (v6n : Int) = bitsVal bs (pq + nn) 2 ∧ p6 = pq + nn + 2 := by
                              rcases hN6.fine with ⟨_, _, _, d⟩ | ⟨a, b, c, _⟩
                              · exact absurd d (by decide)
                              · exact ⟨a, b, c⟩
                            obtain ⟨hf1, hf2, rfl⟩ := hfine
                            have HMANY := Lib.hid (show Lw.many ((sy : Int), bitsVal bs (pq + nn) 2, Lw.wid (sy : Int)) = 3 + v6n from by
                              unfold Lw.many; simp only; rw [← hf2, HSYK.out, show Lw.base 16 = 3 from rfl]; omega)
                            rw [if_neg (by omega), HMANY.out] at HST
                            clear hE6 hM6 hN6 hv6a hv6b he6 hf2
                            by_cases hlong : k < o.length + (3 + v6n)
                            · have f1 : decide ((k : Int) < ((o.length : Nat) : Int) + ((3 : Int) + (v6n : Int))) = true := decide_eq_true (by omega)
                              have HL := Lib.hid (HLE0.out 3 (by decide) (by rw [← HST.out, if_pos hlong]))
                              go_wp2_with fail
                              go_ret2
                              exact ⟨HMz.out, .inr ⟨3, rfl, by decide, ⟨_, false, HEz.out.fine⟩, HL.out⟩⟩
                            · have f1 : decide ((k : Int) < ((o.length : Nat) : Int) + ((3 : Int) + (v6n : Int))) = false := decide_eq_false (by omega)
                              rw [if_neg hlong] at HST
                              have HVV := Lib.hid (show ∀ x wb, Lw.val last ((sy : Int), x, wb) = last ∧ Lw.lastOf last ((sy : Int), x, wb) = last from fun x wb => by
                                have hsk := HSYK.out
                                unfold Lw.val Lw.lastOf; simp only; constructor <;> (repeat' split) <;> omega)
                              rw [(HVV.out _ _).1, (HVV.out _ _).2] at HST
                              go_wp2_with fail
                              go_loopw [18, 23] (fun av cv wr => ∃ j : Nat, j ≤ (3 + v6n) ∧ cv = .int .i64 j ∧ av = .int .i64 ((o.length + j : Nat) : Int) ∧ Hid (BlkI wr w.heap.size (fillS k o last j)) ∧ Hid (Mods [w.heap.size] wz wr)) (fun _ cv _ => (3 + v6n) - (intOf cv).toNat)
                              case atStart => exact ⟨0, by omega, rfl, rfl, Lib.hid (by rw [fillS_zero]; exact HOz.out), Lib.hid (Mods.refl _ _)⟩
                              case round =>
                                obtain ⟨j, hj, rfl, rfl, HOj, HMj⟩ := hrel
                                by_cases hlt : j < (3 + v6n)
                                · have t1 : decide ((j : Int) < ((3 : Int) + (v6n : Int))) = true := decide_eq_true (by omega)
                                  have t1n : decide (j < (3 + v6n)) = true := decide_eq_true hlt
                                  obtain ⟨ax, hax⟩ : ∃ ax, o.length + j = ax := ⟨_, rfl⟩
                                  have HAX := Lib.hid hax
                                  have t2 : (ax : Int) < (k : Int) := by omega
                                  obtain ⟨old, hc1⟩ : ∃ old, wr.cell? ⟨w.heap.size, ax, none⟩ = some (.int .i64 old) := ⟨_, HOj.out.at ax (by rw [fillS_len (by omega)]; omega)⟩
                                  have hf := free_blk HOj.out ax
                                  rw [hax]
                                  clear hax
                                  go_wp2_with fail
                                  go_roundw
                                  case rel =>
                                    have hm := HMj.out.setCell (p := ⟨w.heap.size, ax, none⟩) (.inl (by simp)) (.int .i64 (last))
                                    have ho := HOj.out.set ax (last)
                                    rw [← HAX.out, fillS_next (by have := HAX.out; omega), HAX.out] at ho
                                    exact ⟨j + 1, by omega, by go_num, by have := HAX.out; rw [← this]; go_num, Lib.hid ho, Lib.hid hm⟩
                                  case measure => simp [intOf]; omega
                                · obtain rfl : j = (3 + v6n) := by omega
                                  have t1 : decide (((3 : Int) + (v6n : Int)) < ((3 : Int) + (v6n : Int))) = false := decide_eq_false (by omega)
                                  have HNX := Lib.hid (show NormE w wr g A bs GS GC k sh (rawF bs (p + 1) k) ((v3n + 2) - (st + 1)) (pq + nn + 2) (last) (o ++ List.replicate ((3 + v6n)) (last)) from ⟨by rw [show (v3n + 2) - (st + 1) = m1 from by have := HM1.out; omega]; exact HST.out, by simp; omega, by rw [← fillS_end]; exact HOj.out, HEz.out.mods HMj.out (by simp; omega) (fun ad e => by have := HA.out ad e; simp; omega), HSz.out.mods HMj.out (by simp; omega), ReadsInt.mods HCz.out HMj.out (fun ad h => by cases h; simp; omega), HMz.out.trans_new HMj.out (by simp)⟩)
                                  go_wp2_with fail
                                  all_goals
                                    go_roundw
                                    case rel => exact ⟨st + 1, _, last, o ++ List.replicate ((3 + v6n)) (last), by omega, by go_num, rfl, by first | rfl | (simp; done), HNX⟩
                                    case measure => simp [intOf]; omega
                          · obtain rfl : e6 = 2 := by omega
                            have hstz' : wz.cell? ⟨g, 2, none⟩ = some (.bool true) := hstz
                            clear hstz
                            have hshort : 8 * bs.length < pq + nn + 2 := by
                              rcases hN6.fine with ⟨a, _⟩ | ⟨_, _, _, d⟩
                              · exact a
                              · exact absurd d (by decide)
                            have HL := Lib.hid (HLE0.out 2 (by decide) (by rw [← HST.out, if_pos hshort]))
                            clear hE6 hM6 hN6 hv6a hv6b he6 hshort
                            go_wp2_with fail
                            go_ret2
                            obtain ⟨q5, hq5, _⟩ := HEz.out
                            exact ⟨HMz.out, .inr ⟨2, rfl, by decide, ⟨q5, _, hq5⟩, HL.out⟩⟩
                        by_cases h17 : sy = 17
                        · skip
                          have HSYK := Lib.hid (show (sy : Int) = 17 from by omega)
                          have k16 : ((sy : Int) == 16) = false := beq_eq_false_iff_ne.2 (by omega)
                          have k17 : ((sy : Int) == 17) = true := beq_iff_eq.2 (by omega)
                          have k18 : ((sy : Int) == 18) = false := beq_eq_false_iff_ne.2 (by omega)
                          have z1 : decide ((0 : Int) < (sy : Int)) = true := decide_eq_true (by omega)
                          have z2 : decide ((sy : Int) < 16) = false := decide_eq_false (by omega)
                          clear h17
                          have HW := Lib.hid (show (Lw.wid (sy : Int)).toNat = 3 from by rw [HSYK.out]; rfl)
                          go_wp2_with fail
                          refine (num_e g A bs (pq + nn) 0 3 wa HEa.out (.inl rfl) (by omega) (by omega)).mono ?_
                          rintro en wz ⟨v6, p6, e6, rfl, hE6, hM6, hN6, hv6a, hv6b, he6⟩
                          obtain ⟨v6n, rfl⟩ := Int.eq_ofNat_of_zero_le hv6a
                          have hv6c : v6n < 8 := by have : ((v6n : Nat) : Int) < 8 := hv6b; omega
                          have HEz := Lib.hid hE6; have HOz := Lib.hid (HOa.out.mods hM6 (by simp; omega)); have HSz := Lib.hid (HSa.out.mods hM6 (by simp; omega)); have HCz := Lib.hid (ReadsInt.mods HCa.out hM6 (fun ad h => by cases h; simp; omega)); have HMz := Lib.hid (HMa.out.trans hM6)
                          have hstz := hE6.short
                          rw [HW.out] at HST
                          by_cases he60 : e6 = 0
                          · subst he60
                            have hstz' : wz.cell? ⟨g, 2, none⟩ = some (.bool false) := hstz
                            clear hstz
                            have hfine : pq + nn + 3 ≤ 8 * bs.length ∧ (v6n : Int) = bitsVal bs (pq + nn) 3 ∧ p6 = pq + nn + 3 := by
                              rcases hN6.fine with ⟨_, _, _, d⟩ | ⟨a, b, c, _⟩
                              · exact absurd d (by decide)
                              · exact ⟨a, b, c⟩
                            obtain ⟨hf1, hf2, rfl⟩ := hfine
                            have HMANY := Lib.hid (show Lw.many ((sy : Int), bitsVal bs (pq + nn) 3, Lw.wid (sy : Int)) = 3 + v6n from by
                              unfold Lw.many; simp only; rw [← hf2, HSYK.out, show Lw.base 17 = 3 from rfl]; omega)
                            rw [if_neg (by omega), HMANY.out] at HST
                            clear hE6 hM6 hN6 hv6a hv6b he6 hf2
                            by_cases hlong : k < o.length + (3 + v6n)
                            · have f1 : decide ((k : Int) < ((o.length : Nat) : Int) + ((3 : Int) + (v6n : Int))) = true := decide_eq_true (by omega)
                              have HL := Lib.hid (HLE0.out 3 (by decide) (by rw [← HST.out, if_pos hlong]))
                              go_wp2_with fail
                              go_ret2
                              exact ⟨HMz.out, .inr ⟨3, rfl, by decide, ⟨_, false, HEz.out.fine⟩, HL.out⟩⟩
                            · have f1 : decide ((k : Int) < ((o.length : Nat) : Int) + ((3 : Int) + (v6n : Int))) = false := decide_eq_false (by omega)
                              rw [if_neg hlong] at HST
                              have HVV := Lib.hid (show ∀ x wb, Lw.val last ((sy : Int), x, wb) = 0 ∧ Lw.lastOf last ((sy : Int), x, wb) = last from fun x wb => by
                                have hsk := HSYK.out
                                unfold Lw.val Lw.lastOf; simp only; constructor <;> (repeat' split) <;> omega)
                              rw [(HVV.out _ _).1, (HVV.out _ _).2] at HST
                              go_wp2_with fail
                              go_loopw [18, 23] (fun av cv wr => ∃ j : Nat, j ≤ (3 + v6n) ∧ cv = .int .i64 j ∧ av = .int .i64 ((o.length + j : Nat) : Int) ∧ Hid (BlkI wr w.heap.size (fillS k o 0 j)) ∧ Hid (Mods [w.heap.size] wz wr)) (fun _ cv _ => (3 + v6n) - (intOf cv).toNat)
                              case atStart => exact ⟨0, by omega, rfl, rfl, Lib.hid (by rw [fillS_zero]; exact HOz.out), Lib.hid (Mods.refl _ _)⟩
                              case round =>
                                obtain ⟨j, hj, rfl, rfl, HOj, HMj⟩ := hrel
                                by_cases hlt : j < (3 + v6n)
                                · have t1 : decide ((j : Int) < ((3 : Int) + (v6n : Int))) = true := decide_eq_true (by omega)
                                  have t1n : decide (j < (3 + v6n)) = true := decide_eq_true hlt
                                  obtain ⟨ax, hax⟩ : ∃ ax, o.length + j = ax := ⟨_, rfl⟩
                                  have HAX := Lib.hid hax
                                  have t2 : (ax : Int) < (k : Int) := by omega
                                  obtain ⟨old, hc1⟩ : ∃ old, wr.cell? ⟨w.heap.size, ax, none⟩ = some (.int .i64 old) := ⟨_, HOj.out.at ax (by rw [fillS_len (by omega)]; omega)⟩
                                  have hf := free_blk HOj.out ax
                                  rw [hax]
                                  clear hax
                                  go_wp2_with fail
                                  go_roundw
                                  case rel =>
                                    have hm := HMj.out.setCell (p := ⟨w.heap.size, ax, none⟩) (.inl (by simp)) (.int .i64 (0))
                                    have ho := HOj.out.set ax (0)
                                    rw [← HAX.out, fillS_next (by have := HAX.out; omega), HAX.out] at ho
                                    exact ⟨j + 1, by omega, by go_num, by have := HAX.out; rw [← this]; go_num, Lib.hid ho, Lib.hid hm⟩
                                  case measure => simp [intOf]; omega
                                · obtain rfl : j = (3 + v6n) := by omega
                                  have t1 : decide (((3 : Int) + (v6n : Int)) < ((3 : Int) + (v6n : Int))) = false := decide_eq_false (by omega)
                                  have HNX := Lib.hid (show NormE w wr g A bs GS GC k sh (rawF bs (p + 1) k) ((v3n + 2) - (st + 1)) (pq + nn + 3) (last) (o ++ List.replicate ((3 + v6n)) (0)) from ⟨by rw [show (v3n + 2) - (st + 1) = m1 from by have := HM1.out; omega]; exact HST.out, by simp; omega, by rw [← fillS_end]; exact HOj.out, HEz.out.mods HMj.out (by simp; omega) (fun ad e => by have := HA.out ad e; simp; omega), HSz.out.mods HMj.out (by simp; omega), ReadsInt.mods HCz.out HMj.out (fun ad h => by cases h; simp; omega), HMz.out.trans_new HMj.out (by simp)⟩)
                                  go_wp2_with fail
                                  all_goals
                                    go_roundw
                                    case rel => exact ⟨st + 1, _, last, o ++ List.replicate ((3 + v6n)) (0), by omega, by go_num, rfl, by first | rfl | (simp; done), HNX⟩
                                    case measure => simp [intOf]; omega
                          · obtain rfl : e6 = 2 := by omega
                            have hstz' : wz.cell? ⟨g, 2, none⟩ = some (.bool true) := hstz
                            clear hstz
                            have hshort : 8 * bs.length < pq + nn + 3 := by
                              rcases hN6.fine with ⟨a, _⟩ | ⟨_, _, _, d⟩
                              · exact a
                              · exact absurd d (by decide)
                            have HL := Lib.hid (HLE0.out 2 (by decide) (by rw [← HST.out, if_pos hshort]))
                            clear hE6 hM6 hN6 hv6a hv6b he6 hshort
                            go_wp2_with fail
                            go_ret2
                            obtain ⟨q5, hq5, _⟩ := HEz.out
                            exact ⟨HMz.out, .inr ⟨2, rfl, by decide, ⟨q5, _, hq5⟩, HL.out⟩⟩
                        by_cases h18 : sy = 18
                        · skip
                          have HSYK := Lib.hid (show (sy : Int) = 18 from by omega)
                          have k16 : ((sy : Int) == 16) = false := beq_eq_false_iff_ne.2 (by omega)
                          have k17 : ((sy : Int) == 17) = false := beq_eq_false_iff_ne.2 (by omega)
                          have k18 : ((sy : Int) == 18) = true := beq_iff_eq.2 (by omega)
                          have z1 : decide ((0 : Int) < (sy : Int)) = true := decide_eq_true (by omega)
                          have z2 : decide ((sy : Int) < 16) = false := decide_eq_false (by omega)
                          clear h18
                          have HW := Lib.hid (show (Lw.wid (sy : Int)).toNat = 7 from by rw [HSYK.out]; rfl)
                          go_wp2_with fail
                          refine (num_e g A bs (pq + nn) 0 7 wa HEa.out (.inl rfl) (by omega) (by omega)).mono ?_
                          rintro en wz ⟨v6, p6, e6, rfl, hE6, hM6, hN6, hv6a, hv6b, he6⟩
                          obtain ⟨v6n, rfl⟩ := Int.eq_ofNat_of_zero_le hv6a
                          have hv6c : v6n < 128 := by have : ((v6n : Nat) : Int) < 128 := hv6b; omega
                          have HEz := Lib.hid hE6; have HOz := Lib.hid (HOa.out.mods hM6 (by simp; omega)); have HSz := Lib.hid (HSa.out.mods hM6 (by simp; omega)); have HCz := Lib.hid (ReadsInt.mods HCa.out hM6 (fun ad h => by cases h; simp; omega)); have HMz := Lib.hid (HMa.out.trans hM6)
                          have hstz := hE6.short
                          rw [HW.out] at HST
                          by_cases he60 : e6 = 0
                          · subst he60
                            have hstz' : wz.cell? ⟨g, 2, none⟩ = some (.bool false) := hstz
                            clear hstz
                            have hfine : pq + nn + 7 ≤ 8 * bs.length ∧ (v6n : Int) = bitsVal bs (pq + nn) 7 ∧ p6 = pq + nn + 7 := by
                              rcases hN6.fine with ⟨_, _, _, d⟩ | ⟨a, b, c, _⟩
                              · exact absurd d (by decide)
                              · exact ⟨a, b, c⟩
                            obtain ⟨hf1, hf2, rfl⟩ := hfine
                            have HMANY := Lib.hid (show Lw.many ((sy : Int), bitsVal bs (pq + nn) 7, Lw.wid (sy : Int)) = 11 + v6n from by
                              unfold Lw.many; simp only; rw [← hf2, HSYK.out, show Lw.base 18 = 11 from rfl]; omega)
                            rw [if_neg (by omega), HMANY.out] at HST
                            clear hE6 hM6 hN6 hv6a hv6b he6 hf2
                            by_cases hlong : k < o.length + (11 + v6n)
                            · have f1 : decide ((k : Int) < ((o.length : Nat) : Int) + ((11 : Int) + (v6n : Int))) = true := decide_eq_true (by omega)
                              have HL := Lib.hid (HLE0.out 3 (by decide) (by rw [← HST.out, if_pos hlong]))
                              go_wp2_with fail
                              go_ret2
                              exact ⟨HMz.out, .inr ⟨3, rfl, by decide, ⟨_, false, HEz.out.fine⟩, HL.out⟩⟩
                            · have f1 : decide ((k : Int) < ((o.length : Nat) : Int) + ((11 : Int) + (v6n : Int))) = false := decide_eq_false (by omega)
                              rw [if_neg hlong] at HST
                              have HVV := Lib.hid (show ∀ x wb, Lw.val last ((sy : Int), x, wb) = 0 ∧ Lw.lastOf last ((sy : Int), x, wb) = last from fun x wb => by
                                have hsk := HSYK.out
                                unfold Lw.val Lw.lastOf; simp only; constructor <;> (repeat' split) <;> omega)
                              rw [(HVV.out _ _).1, (HVV.out _ _).2] at HST
                              go_wp2_with fail
                              go_loopw [18, 23] (fun av cv wr => ∃ j : Nat, j ≤ (11 + v6n) ∧ cv = .int .i64 j ∧ av = .int .i64 ((o.length + j : Nat) : Int) ∧ Hid (BlkI wr w.heap.size (fillS k o 0 j)) ∧ Hid (Mods [w.heap.size] wz wr)) (fun _ cv _ => (11 + v6n) - (intOf cv).toNat)
                              case atStart => exact ⟨0, by omega, rfl, rfl, Lib.hid (by rw [fillS_zero]; exact HOz.out), Lib.hid (Mods.refl _ _)⟩
                              case round =>
                                obtain ⟨j, hj, rfl, rfl, HOj, HMj⟩ := hrel
                                by_cases hlt : j < (11 + v6n)
                                · have t1 : decide ((j : Int) < ((11 : Int) + (v6n : Int))) = true := decide_eq_true (by omega)
                                  have t1n : decide (j < (11 + v6n)) = true := decide_eq_true hlt
                                  obtain ⟨ax, hax⟩ : ∃ ax, o.length + j = ax := ⟨_, rfl⟩
                                  have HAX := Lib.hid hax
                                  have t2 : (ax : Int) < (k : Int) := by omega
                                  obtain ⟨old, hc1⟩ : ∃ old, wr.cell? ⟨w.heap.size, ax, none⟩ = some (.int .i64 old) := ⟨_, HOj.out.at ax (by rw [fillS_len (by omega)]; omega)⟩
                                  have hf := free_blk HOj.out ax
                                  rw [hax]
                                  clear hax
                                  go_wp2_with fail
                                  go_roundw
                                  case rel =>
                                    have hm := HMj.out.setCell (p := ⟨w.heap.size, ax, none⟩) (.inl (by simp)) (.int .i64 (0))
                                    have ho := HOj.out.set ax (0)
                                    rw [← HAX.out, fillS_next (by have := HAX.out; omega), HAX.out] at ho
                                    exact ⟨j + 1, by omega, by go_num, by have := HAX.out; rw [← this]; go_num, Lib.hid ho, Lib.hid hm⟩
                                  case measure => simp [intOf]; omega
                                · obtain rfl : j = (11 + v6n) := by omega
                                  have t1 : decide (((11 : Int) + (v6n : Int)) < ((11 : Int) + (v6n : Int))) = false := decide_eq_false (by omega)
                                  have HNX := Lib.hid (show NormE w wr g A bs GS GC k sh (rawF bs (p + 1) k) ((v3n + 2) - (st + 1)) (pq + nn + 7) (last) (o ++ List.replicate ((11 + v6n)) (0)) from ⟨by rw [show (v3n + 2) - (st + 1) = m1 from by have := HM1.out; omega]; exact HST.out, by simp; omega, by rw [← fillS_end]; exact HOj.out, HEz.out.mods HMj.out (by simp; omega) (fun ad e => by have := HA.out ad e; simp; omega), HSz.out.mods HMj.out (by simp; omega), ReadsInt.mods HCz.out HMj.out (fun ad h => by cases h; simp; omega), HMz.out.trans_new HMj.out (by simp)⟩)
                                  go_wp2_with fail
                                  all_goals
                                    go_roundw
                                    case rel => exact ⟨st + 1, _, last, o ++ List.replicate ((11 + v6n)) (0), by omega, by go_num, rfl, by first | rfl | (simp; done), HNX⟩
                                    case measure => simp [intOf]; omega
                          · obtain rfl : e6 = 2 := by omega
                            have hstz' : wz.cell? ⟨g, 2, none⟩ = some (.bool true) := hstz
                            clear hstz
                            have hshort : 8 * bs.length < pq + nn + 7 := by
                              rcases hN6.fine with ⟨a, _⟩ | ⟨_, _, _, d⟩
                              · exact a
                              · exact absurd d (by decide)
                            have HL := Lib.hid (HLE0.out 2 (by decide) (by rw [← HST.out, if_pos hshort]))
                            clear hE6 hM6 hN6 hv6a hv6b he6 hshort
                            go_wp2_with fail
                            go_ret2
                            obtain ⟨q5, hq5, _⟩ := HEz.out
                            exact ⟨HMz.out, .inr ⟨2, rfl, by decide, ⟨q5, _, hq5⟩, HL.out⟩⟩
                        by_cases h0 : sy = 0
                        · skip
                          have k16 : ((sy : Int) == 16) = false := beq_eq_false_iff_ne.2 (by omega)
                          have k17 : ((sy : Int) == 17) = false := beq_eq_false_iff_ne.2 (by omega)
                          have k18 : ((sy : Int) == 18) = false := beq_eq_false_iff_ne.2 (by omega)
                          have z1 : decide ((0 : Int) < (sy : Int)) = false := decide_eq_false (by omega)
                          have z2 : decide ((sy : Int) < 16) = true := decide_eq_true (by omega)
                          have HW := Lib.hid (show (Lw.wid (sy : Int)).toNat = 0 from by unfold Lw.wid; rw [if_neg (by omega), if_neg (by omega), if_neg (by omega)]; rfl)
                          have HEz := HEa; have HOz := HOa; have HSz := HSa; have HCz := HCa; have HMz := HMa
                          have hstz' : wa.cell? ⟨g, 2, none⟩ = some (.bool false) := HEa.out.short
                          have HMANY := Lib.hid (show Lw.many ((sy : Int), bitsVal bs (pq + nn) 0, Lw.wid (sy : Int)) = 1 from by
                            unfold Lw.many Lw.base; simp only; rw [if_neg (by omega), if_neg (by omega), if_neg (by omega)]; rfl)
                          rw [HW.out, if_neg (by omega), HMANY.out] at HST
                          have hf1 : pq + nn + 0 ≤ 8 * bs.length := by omega
                          by_cases hlong : k < o.length + 1
                          · exact absurd hlong (by omega)
                          · have f1 : decide ((k : Int) < ((o.length : Nat) : Int) + 1) = false := decide_eq_false (by omega)
                            rw [if_neg hlong] at HST
                            have HVV := Lib.hid (show ∀ x wb, Lw.val last ((sy : Int), x, wb) = 0 ∧ Lw.lastOf last ((sy : Int), x, wb) = last from fun x wb => by
                              skip
                              unfold Lw.val Lw.lastOf; simp only; constructor <;> (repeat' split) <;> omega)
                            rw [(HVV.out _ _).1, (HVV.out _ _).2] at HST
                            go_wp2_with fail
                            go_loopw [18, 23] (fun av cv wr => ∃ j : Nat, j ≤ 1 ∧ cv = .int .i64 j ∧ av = .int .i64 ((o.length + j : Nat) : Int) ∧ Hid (BlkI wr w.heap.size (fillS k o 0 j)) ∧ Hid (Mods [w.heap.size] wa wr)) (fun _ cv _ => 1 - (intOf cv).toNat)
                            case atStart => exact ⟨0, by omega, rfl, rfl, Lib.hid (by rw [fillS_zero]; exact HOz.out), Lib.hid (Mods.refl _ _)⟩
                            case round =>
                              obtain ⟨j, hj, rfl, rfl, HOj, HMj⟩ := hrel
                              by_cases hlt : j < 1
                              · have t1 : decide ((j : Int) < 1) = true := decide_eq_true (by omega)
                                have t1n : decide (j < 1) = true := decide_eq_true hlt
                                obtain ⟨ax, hax⟩ : ∃ ax, o.length + j = ax := ⟨_, rfl⟩
                                have HAX := Lib.hid hax
                                have t2 : (ax : Int) < (k : Int) := by omega
                                obtain ⟨old, hc1⟩ : ∃ old, wr.cell? ⟨w.heap.size, ax, none⟩ = some (.int .i64 old) := ⟨_, HOj.out.at ax (by rw [fillS_len (by omega)]; omega)⟩
                                have hf := free_blk HOj.out ax
                                rw [hax]
                                clear hax
                                go_wp2_with fail
                                go_roundw
                                case rel =>
                                  have hm := HMj.out.setCell (p := ⟨w.heap.size, ax, none⟩) (.inl (by simp)) (.int .i64 (0))
                                  have ho := HOj.out.set ax (0)
                                  rw [← HAX.out, fillS_next (by have := HAX.out; omega), HAX.out] at ho
                                  exact ⟨j + 1, by omega, by go_num, by have := HAX.out; rw [← this]; go_num, Lib.hid ho, Lib.hid hm⟩
                                case measure => simp [intOf]; omega
                              · obtain rfl : j = 1 := by omega
                                have t1 : decide ((1 : Int) < 1) = false := decide_eq_false (by omega)
                                have HNX := Lib.hid (show NormE w wr g A bs GS GC k sh (rawF bs (p + 1) k) ((v3n + 2) - (st + 1)) (pq + nn + 0) (last) (o ++ List.replicate (1) (0)) from ⟨by rw [show (v3n + 2) - (st + 1) = m1 from by have := HM1.out; omega]; exact HST.out, by simp; omega, by rw [← fillS_end]; exact HOj.out, HEz.out.mods HMj.out (by simp; omega) (fun ad e => by have := HA.out ad e; simp; omega), HSz.out.mods HMj.out (by simp; omega), ReadsInt.mods HCz.out HMj.out (fun ad h => by cases h; simp; omega), HMz.out.trans_new HMj.out (by simp)⟩)
                                go_wp2_with fail
                                all_goals
                                  go_roundw
                                  case rel => exact ⟨st + 1, _, last, o ++ List.replicate (1) (0), by omega, by go_num, rfl, by first | rfl | (simp; done), HNX⟩
                                  case measure => simp [intOf]; omega
                        have k16 : ((sy : Int) == 16) = false := beq_eq_false_iff_ne.2 (by omega)
                        have k17 : ((sy : Int) == 17) = false := beq_eq_false_iff_ne.2 (by omega)
                        have k18 : ((sy : Int) == 18) = false := beq_eq_false_iff_ne.2 (by omega)
                        have z1 : decide ((0 : Int) < (sy : Int)) = true := decide_eq_true (by omega)
                        have z2 : decide ((sy : Int) < 16) = true := decide_eq_true (by omega)
                        have HW := Lib.hid (show (Lw.wid (sy : Int)).toNat = 0 from by unfold Lw.wid; rw [if_neg (by omega), if_neg (by omega), if_neg (by omega)]; rfl)
                        have HEz := HEa; have HOz := HOa; have HSz := HSa; have HCz := HCa; have HMz := HMa
                        have hstz' : wa.cell? ⟨g, 2, none⟩ = some (.bool false) := HEa.out.short
                        have HMANY := Lib.hid (show Lw.many ((sy : Int), bitsVal bs (pq + nn) 0, Lw.wid (sy : Int)) = 1 from by
                          unfold Lw.many Lw.base; simp only; rw [if_neg (by omega), if_neg (by omega), if_neg (by omega)]; rfl)
                        rw [HW.out, if_neg (by omega), HMANY.out] at HST
                        have hf1 : pq + nn + 0 ≤ 8 * bs.length := by omega
                        by_cases hlong : k < o.length + 1
                        · exact absurd hlong (by omega)
                        · have f1 : decide ((k : Int) < ((o.length : Nat) : Int) + 1) = false := decide_eq_false (by omega)
                          rw [if_neg hlong] at HST
                          have HVV := Lib.hid (show ∀ x wb, Lw.val last ((sy : Int), x, wb) = (sy : Int) ∧ Lw.lastOf last ((sy : Int), x, wb) = (sy : Int) from fun x wb => by
                            skip
                            unfold Lw.val Lw.lastOf; simp only; constructor <;> (repeat' split) <;> omega)
                          rw [(HVV.out _ _).1, (HVV.out _ _).2] at HST
                          go_wp2_with fail
                          go_loopw [18, 23] (fun av cv wr => ∃ j : Nat, j ≤ 1 ∧ cv = .int .i64 j ∧ av = .int .i64 ((o.length + j : Nat) : Int) ∧ Hid (BlkI wr w.heap.size (fillS k o (sy : Int) j)) ∧ Hid (Mods [w.heap.size] wa wr)) (fun _ cv _ => 1 - (intOf cv).toNat)
                          case atStart => exact ⟨0, by omega, rfl, rfl, Lib.hid (by rw [fillS_zero]; exact HOz.out), Lib.hid (Mods.refl _ _)⟩
                          case round =>
                            obtain ⟨j, hj, rfl, rfl, HOj, HMj⟩ := hrel
                            by_cases hlt : j < 1
                            · have t1 : decide ((j : Int) < 1) = true := decide_eq_true (by omega)
                              have t1n : decide (j < 1) = true := decide_eq_true hlt
                              obtain ⟨ax, hax⟩ : ∃ ax, o.length + j = ax := ⟨_, rfl⟩
                              have HAX := Lib.hid hax
                              have t2 : (ax : Int) < (k : Int) := by omega
                              obtain ⟨old, hc1⟩ : ∃ old, wr.cell? ⟨w.heap.size, ax, none⟩ = some (.int .i64 old) := ⟨_, HOj.out.at ax (by rw [fillS_len (by omega)]; omega)⟩
                              have hf := free_blk HOj.out ax
                              rw [hax]
                              clear hax
                              go_wp2_with fail
                              go_roundw
                              case rel =>
                                have hm := HMj.out.setCell (p := ⟨w.heap.size, ax, none⟩) (.inl (by simp)) (.int .i64 ((sy : Int)))
                                have ho := HOj.out.set ax ((sy : Int))
                                rw [← HAX.out, fillS_next (by have := HAX.out; omega), HAX.out] at ho
                                exact ⟨j + 1, by omega, by go_num, by have := HAX.out; rw [← this]; go_num, Lib.hid ho, Lib.hid hm⟩
                              case measure => simp [intOf]; omega
                            · obtain rfl : j = 1 := by omega
                              have t1 : decide ((1 : Int) < 1) = false := decide_eq_false (by omega)
                              have HNX := Lib.hid (show NormE w wr g A bs GS GC k sh (rawF bs (p + 1) k) ((v3n + 2) - (st + 1)) (pq + nn + 0) ((sy : Int)) (o ++ List.replicate (1) ((sy : Int))) from ⟨by rw [show (v3n + 2) - (st + 1) = m1 from by have := HM1.out; omega]; exact HST.out, by simp; omega, by rw [← fillS_end]; exact HOj.out, HEz.out.mods HMj.out (by simp; omega) (fun ad e => by have := HA.out ad e; simp; omega), HSz.out.mods HMj.out (by simp; omega), ReadsInt.mods HCz.out HMj.out (fun ad h => by cases h; simp; omega), HMz.out.trans_new HMj.out (by simp)⟩)
                              go_wp2_with fail
                              all_goals
                                go_roundw
                                case rel => exact ⟨st + 1, _, (sy : Int), o ++ List.replicate (1) ((sy : Int)), by omega, by go_num, rfl, by first | rfl | (simp; done), HNX⟩
                                case measure => simp [intOf]; omega
                      · have HL := Lib.hid (HLE0.out 2 (by decide) (by rw [← HST.out, if_pos (by omega)]))
                        have HEa := Lib.hid hEa
                        clear hEa
                        go_wp2_with fail
                        go_ret2
                        obtain ⟨q5, hq5, _⟩ := HEa.out
                        exact ⟨HMa.out, .inr ⟨2, rfl, by decide, ⟨q5, _, hq5⟩, HL.out⟩⟩
                    · have c3 : decide (((o.length : Nat) : Int) < (k : Int)) = false := decide_eq_false (by omega)
                      have c4 : decide (o.length < k) = false := decide_eq_false hat
                      have HR := Lib.hid (show rawF bs (p + 1) k = .ok (padS k o) pq from HN.out.res.symm.trans (stepsF_end (.inr (by omega))))
                      have HPL := Lib.hid (padS_len holen)
                      have HRo := Lib.hid (blk_reads HN.out.own HPL.out (by omega))
                      go_wp2_with fail
                      refine (refCheck_any (some ⟨w.heap.size, 0, none⟩) k k (padS k o) wr HRo.out (by omega)).mono ?_
                      rintro en w' ⟨rfl, rfl⟩
                      have HLF := Lib.hid (HLO0.out _ _ HR.out)
                      by_cases hc : checkS (padS k o) = 0
                      · rw [if_pos hc] at HLF
                        have HC := Lib.hid hc
                        rw [hc]
                        clear hc
                        go_wp2_with fail
                        go_ret2
                        exact ⟨HN.out.mods, .inl ⟨w.heap.size, padS k o, pq, rfl, Nat.le_refl _, HN.out.own, HPL.out, HC.out, HN.out.eye.fine, HLF.out⟩⟩
                      · rw [if_neg hc] at HLF
                        have hcb : (checkS (padS k o) != 0) = true := by simp [hc]
                        generalize checkS (padS k o) = cc at *
                        go_wp2_with fail
                        go_ret2
                        exact ⟨HN.out.mods, .inr ⟨3, rfl, by decide, ⟨pq, false, HN.out.eye.fine⟩, HLF.out⟩⟩
                  · have c1 : decide ((st : Int) < ((v3n : Int) + 2)) = false := decide_eq_false (by omega)
                    have c2 : decide (st < (v3n + 2)) = false := decide_eq_false hst
                    have HR := Lib.hid (show rawF bs (p + 1) k = .ok (padS k o) pq from HN.out.res.symm.trans (stepsF_end (.inl (by omega))))
                    have HPL := Lib.hid (padS_len holen)
                    have HRo := Lib.hid (blk_reads HN.out.own HPL.out (by omega))
                    go_wp2_with fail
                    refine (refCheck_any (some ⟨w.heap.size, 0, none⟩) k k (padS k o) wr HRo.out (by omega)).mono ?_
                    rintro en w' ⟨rfl, rfl⟩
                    have HLF := Lib.hid (HLO0.out _ _ HR.out)
                    by_cases hc : checkS (padS k o) = 0
                    · rw [if_pos hc] at HLF
                      have HC := Lib.hid hc
                      rw [hc]
                      clear hc
                      go_wp2_with fail
                      go_ret2
                      exact ⟨HN.out.mods, .inl ⟨w.heap.size, padS k o, pq, rfl, Nat.le_refl _, HN.out.own, HPL.out, HC.out, HN.out.eye.fine, HLF.out⟩⟩
                    · rw [if_neg hc] at HLF
                      have hcb : (checkS (padS k o) != 0) = true := by simp [hc]
                      generalize checkS (padS k o) = cc at *
                      go_wp2_with fail
                      go_ret2
                      exact ⟨HN.out.mods, .inr ⟨3, rfl, by decide, ⟨pq, false, HN.out.eye.fine⟩, HLF.out⟩⟩
            · obtain rfl : et = 2 := by have := HXt.out; omega
              have hst' : wt.cell? ⟨g, 2, none⟩ = some (.bool true) := hst
              clear hst
              have HL := Lib.hid (HLE0.out 2 (by decide) (by
                have h := HMO.out
                rw [HHP.out] at h
                have h2 : (if (k : Int) < ((v3n : Int) + 2) then (if (2 : Int) = 0 then 3 else 2) else 2) = (2 : Int) := by split <;> rfl
                rw [h2] at h
                exact (raw_most HHE.out h (by omega)).1 (by decide)))
              go_wp2_with fail
              go_ret2
              obtain ⟨q5, hq5, _⟩ := HEt.out
              exact ⟨HMt.out, .inr ⟨2, rfl, by decide, ⟨q5, _, hq5⟩, HL.out⟩⟩
          · obtain rfl : v1 = 0 := by omega
            obtain ⟨wt, hwt⟩ : ∃ wt, w10 = wt := ⟨_, rfl⟩
            obtain ⟨pt, hpt⟩ : ∃ pt, p10 = pt := ⟨_, rfl⟩
            obtain ⟨et, heT⟩ : ∃ et, e10 = et := ⟨_, rfl⟩
            subst hwt hpt heT
            have HEt := HE10; have HSt := HS10; have HKt := HK10; have HMt := HM10; have HCt := HC10; have HXt := HX10
            obtain ⟨mN, hmN⟩ : ∃ mN, k = mN := ⟨_, rfl⟩
            have HMO := Lib.hid (show MostR bs pp 0 k (k : Int) p10 (if (k : Int) < (k : Int) then (if e10 = 0 then 3 else e10) else e10) from by
              rw [if_neg (by omega)]
              exact ⟨0, 0, 0, p10, p10, p10, e10, e10, e10, HN10.out, .inl ⟨rfl, rfl, rfl, rfl⟩⟩)
            have hmNb : k ≤ 70000 := by omega
            clear hmN
            have hst := HEt.out.short
            by_cases het : e10 = 0
            · subst het
              have hst' : w10.cell? ⟨g, 2, none⟩ = some (.bool false) := hst
              clear hst
              by_cases hbig : k < k
              · exact absurd hbig (by omega)
              · have g1 : decide ((k : Int) < (k : Int)) = false := decide_eq_false (by omega)
                have g2 : decide (k < k) = false := decide_eq_false hbig
                have HRES := Lib.hid (show rawF bs (p + 1) k = stepsF sh bs k k p10 8 [] from by
                  have h := HMO.out
                  rw [HHP.out, if_neg (by omega)] at h
                  have h2 := (raw_most HHE.out h (by omega)).2 rfl
                  rw [show ((k : Int)).toNat = k from by omega, ← HHS.out] at h2; exact h2)
                have HN0 := Lib.hid (show NormE w w10 g A bs GS GC k sh (rawF bs (p + 1) k) (k - 0) p10 8 [] from ⟨HRES.out.symm, by simp, by rw [show padS k [] = zeros k from by simp [padS, zeros]]; exact HKt.out, HEt.out, HSt.out, HCt.out, HMt.out⟩)
                clear HRES HKt HEt HSt HCt HMt HMO HXt
                go_wp2_with fail
                clear g1 g2 hst'
                go_loopw [17, 18, 19, 20, 21, 22, 23] (fun lv av sv _ _ _ _ wr => ∃ (st pq : Nat) (last : Int) (o : List Int), st ≤ k ∧ sv = .int .i64 st ∧ lv = .int .i64 last ∧ av = .int .i64 o.length ∧ Hid (NormE w wr g A bs GS GC k sh (rawF bs (p + 1) k) (k - st) pq last o)) (fun _ _ sv _ _ _ _ _ => k - (intOf sv).toNat)
                case atStart => exact ⟨0, p10, 8, [], by omega, rfl, rfl, rfl, HN0⟩
                case round =>
                  clear HN0
                  obtain ⟨st, pq, last, o, hstl, rfl, rfl, rfl, HN⟩ := hrel
                  have holen := HN.out.len
                  by_cases hst : st < k
                  · have c1 : decide ((st : Int) < (k : Int)) = true := decide_eq_true (by omega)
                    have c2 : decide (st < k) = true := decide_eq_true hst
                    by_cases hat : o.length < k
                    · have c3 : decide (((o.length : Nat) : Int) < (k : Int)) = true := decide_eq_true (by omega)
                      have c4 : decide (o.length < k) = true := decide_eq_true hat
                      obtain ⟨m1, hm1⟩ : ∃ m1, k - st = m1 + 1 := ⟨k - st - 1, by omega⟩
                      have hsy := sym_is HCK.out bs pq
                      have hhas := sym_has HCK.out hsy
                      obtain ⟨nn, hnn⟩ : ∃ nn, symN sh bs pq = nn := ⟨_, rfl⟩
                      obtain ⟨sy, hsym⟩ : ∃ sy, symS sh bs pq = sy := ⟨_, rfl⟩
                      rw [hnn, hsym] at hsy
                      rw [hsym, HSL.out] at hhas
                      have hsy19 := hhas.1
                      have HTA := Lib.hid (sym_e19 g sh (some ⟨GS, 0, none⟩) (some ⟨GC, 0, none⟩) A bs pq nn sy wr HSL.out (blk_reads HN.out.shr HSL.out (by omega)) HN.out.cod (fun ad h => by cases h; show GS ≠ g; omega) (fun ad h => by cases h; show GC ≠ g; omega) HCK.out hsy HN.out.eye)
                      have hst0 := stepsF_next sh bs k m1 pq last o hat
                      rw [hnn, hsym] at hst0
                      have HST := Lib.hid (show _ = rawF bs (p + 1) k from hst0.symm.trans (by rw [← hm1]; exact HN.out.res))
                      have HM1 := Lib.hid hm1
                      clear hsy hhas hnn hsym hst0 hm1
                      go_wp2_with fail
                      refine HTA.out.mono ?_
                      rintro en wa ⟨hMa, hcase⟩
                      have HOa := Lib.hid (HN.out.own.mods hMa (by simp; omega)); have HSa := Lib.hid (HN.out.shr.mods hMa (by simp; omega)); have HCa := Lib.hid (ReadsInt.mods HN.out.cod hMa (fun ad h => by cases h; simp; omega)); have HMa := Lib.hid (HN.out.mods.trans hMa)
                      clear hMa HTA
                      rcases hcase with ⟨hq1, rfl, hEa⟩ | ⟨hq1, rfl, hEa⟩
                      · have HEa := Lib.hid hEa
                        clear hEa
                        have s0 : decide ((sy : Int) < 0) = false := decide_eq_false (by omega)
                        by_cases h16 : sy = 16
                        · skip
                          have HSYK := Lib.hid (show (sy : Int) = 16 from by omega)
                          have k16 : ((sy : Int) == 16) = true := beq_iff_eq.2 (by omega)
                          have k17 : ((sy : Int) == 17) = false := beq_eq_false_iff_ne.2 (by omega)
                          have k18 : ((sy : Int) == 18) = false := beq_eq_false_iff_ne.2 (by omega)
                          have z1 : decide ((0 : Int) < (sy : Int)) = true := decide_eq_true (by omega)
                          have z2 : decide ((sy : Int) < 16) = false := decide_eq_false (by omega)
                          clear h16
                          have HW := Lib.hid (show (Lw.wid (sy : Int)).toNat = 2 from by rw [HSYK.out]; rfl)
                          go_wp2_with fail
                          refine (num_e g A bs (pq + nn) 0 2 wa HEa.out (.inl rfl) (by omega) (by omega)).mono ?_
                          rintro en wz ⟨v6, p6, e6, rfl, hE6, hM6, hN6, hv6a, hv6b, he6⟩
                          obtain ⟨v6n, rfl⟩ := Int.eq_ofNat_of_zero_le hv6a
                          have hv6c : v6n < 4 := by have : ((v6n : Nat) : Int) < 4 := hv6b; omega
                          have HEz := Lib.hid hE6; have HOz := Lib.hid (HOa.out.mods hM6 (by simp; omega)); have HSz := Lib.hid (HSa.out.mods hM6 (by simp; omega)); have HCz := Lib.hid (ReadsInt.mods HCa.out hM6 (fun ad h => by cases h; simp; omega)); have HMz := Lib.hid (HMa.out.trans hM6)
                          have hstz := hE6.short
                          rw [HW.out] at HST
                          by_cases he60 : e6 = 0
                          · subst he60
                            have hstz' : wz.cell? ⟨g, 2, none⟩ = some (.bool false) := hstz
                            clear hstz
                            have hfine : pq + nn + 2 ≤ 8 * bs.length ∧ (v6n : Int) = bitsVal bs (pq + nn) 2 ∧ p6 = pq + nn + 2 := by
                              rcases hN6.fine with ⟨_, _, _, d⟩ | ⟨a, b, c, _⟩
                              · exact absurd d (by decide)
                              · exact ⟨a, b, c⟩
                            obtain ⟨hf1, hf2, rfl⟩ := hfine
                            have HMANY := Lib.hid (show Lw.many ((sy : Int), bitsVal bs (pq + nn) 2, Lw.wid (sy : Int)) = 3 + v6n from by
                              unfold Lw.many; simp only; rw [← hf2, HSYK.out, show Lw.base 16 = 3 from rfl]; omega)
                            rw [if_neg (by omega), HMANY.out] at HST
                            clear hE6 hM6 hN6 hv6a hv6b he6 hf2
                            by_cases hlong : k < o.length + (3 + v6n)
                            · have f1 : decide ((k : Int) < ((o.length : Nat) : Int) + ((3 : Int) + (v6n : Int))) = true := decide_eq_true (by omega)
                              have HL := Lib.hid (HLE0.out 3 (by decide) (by rw [← HST.out, if_pos hlong]))
                              go_wp2_with fail
                              go_ret2
                              exact ⟨HMz.out, .inr ⟨3, rfl, by decide, ⟨_, false, HEz.out.fine⟩, HL.out⟩⟩
                            · have f1 : decide ((k : Int) < ((o.length : Nat) : Int) + ((3 : Int) + (v6n : Int))) = false := decide_eq_false (by omega)
                              rw [if_neg hlong] at HST
                              have HVV := Lib.hid (show ∀ x wb, Lw.val last ((sy : Int), x, wb) = last ∧ Lw.lastOf last ((sy : Int), x, wb) = last from fun x wb => by
                                have hsk := HSYK.out
                                unfold Lw.val Lw.lastOf; simp only; constructor <;> (repeat' split) <;> omega)
                              rw [(HVV.out _ _).1, (HVV.out _ _).2] at HST
                              go_wp2_with fail
                              go_loopw [18, 23] (fun av cv wr => ∃ j : Nat, j ≤ (3 + v6n) ∧ cv = .int .i64 j ∧ av = .int .i64 ((o.length + j : Nat) : Int) ∧ Hid (BlkI wr w.heap.size (fillS k o last j)) ∧ Hid (Mods [w.heap.size] wz wr)) (fun _ cv _ => (3 + v6n) - (intOf cv).toNat)
                              case atStart => exact ⟨0, by omega, rfl, rfl, Lib.hid (by rw [fillS_zero]; exact HOz.out), Lib.hid (Mods.refl _ _)⟩
                              case round =>
                                obtain ⟨j, hj, rfl, rfl, HOj, HMj⟩ := hrel
                                by_cases hlt : j < (3 + v6n)
                                · have t1 : decide ((j : Int) < ((3 : Int) + (v6n : Int))) = true := decide_eq_true (by omega)
                                  have t1n : decide (j < (3 + v6n)) = true := decide_eq_true hlt
                                  obtain ⟨ax, hax⟩ : ∃ ax, o.length + j = ax := ⟨_, rfl⟩
                                  have HAX := Lib.hid hax
                                  have t2 : (ax : Int) < (k : Int) := by omega
                                  obtain ⟨old, hc1⟩ : ∃ old, wr.cell? ⟨w.heap.size, ax, none⟩ = some (.int .i64 old) := ⟨_, HOj.out.at ax (by rw [fillS_len (by omega)]; omega)⟩
                                  have hf := free_blk HOj.out ax
                                  rw [hax]
                                  clear hax
                                  go_wp2_with fail
                                  go_roundw
                                  case rel =>
                                    have hm := HMj.out.setCell (p := ⟨w.heap.size, ax, none⟩) (.inl (by simp)) (.int .i64 (last))
                                    have ho := HOj.out.set ax (last)
                                    rw [← HAX.out, fillS_next (by have := HAX.out; omega), HAX.out] at ho
                                    exact ⟨j + 1, by omega, by go_num, by have := HAX.out; rw [← this]; go_num, Lib.hid ho, Lib.hid hm⟩
                                  case measure => simp [intOf]; omega
                                · obtain rfl : j = (3 + v6n) := by omega
                                  have t1 : decide (((3 : Int) + (v6n : Int)) < ((3 : Int) + (v6n : Int))) = false := decide_eq_false (by omega)
                                  have HNX := Lib.hid (show NormE w wr g A bs GS GC k sh (rawF bs (p + 1) k) (k - (st + 1)) (pq + nn + 2) (last) (o ++ List.replicate ((3 + v6n)) (last)) from ⟨by rw [show k - (st + 1) = m1 from by have := HM1.out; omega]; exact HST.out, by simp; omega, by rw [← fillS_end]; exact HOj.out, HEz.out.mods HMj.out (by simp; omega) (fun ad e => by have := HA.out ad e; simp; omega), HSz.out.mods HMj.out (by simp; omega), ReadsInt.mods HCz.out HMj.out (fun ad h => by cases h; simp; omega), HMz.out.trans_new HMj.out (by simp)⟩)
                                  go_wp2_with fail
                                  all_goals
                                    go_roundw
                                    case rel => exact ⟨st + 1, _, last, o ++ List.replicate ((3 + v6n)) (last), by omega, by go_num, rfl, by first | rfl | (simp; done), HNX⟩
                                    case measure => simp [intOf]; omega
                          · obtain rfl : e6 = 2 := by omega
                            have hstz' : wz.cell? ⟨g, 2, none⟩ = some (.bool true) := hstz
                            clear hstz
                            have hshort : 8 * bs.length < pq + nn + 2 := by
                              rcases hN6.fine with ⟨a, _⟩ | ⟨_, _, _, d⟩
                              · exact a
                              · exact absurd d (by decide)
                            have HL := Lib.hid (HLE0.out 2 (by decide) (by rw [← HST.out, if_pos hshort]))
                            clear hE6 hM6 hN6 hv6a hv6b he6 hshort
                            go_wp2_with fail
                            go_ret2
                            obtain ⟨q5, hq5, _⟩ := HEz.out
                            exact ⟨HMz.out, .inr ⟨2, rfl, by decide, ⟨q5, _, hq5⟩, HL.out⟩⟩
                        by_cases h17 : sy = 17
                        · skip
                          have HSYK := Lib.hid (show (sy : Int) = 17 from by omega)
                          have k16 : ((sy : Int) == 16) = false := beq_eq_false_iff_ne.2 (by omega)
                          have k17 : ((sy : Int) == 17) = true := beq_iff_eq.2 (by omega)
                          have k18 : ((sy : Int) == 18) = false := beq_eq_false_iff_ne.2 (by omega)
                          have z1 : decide ((0 : Int) < (sy : Int)) = true := decide_eq_true (by omega)
                          have z2 : decide ((sy : Int) < 16) = false := decide_eq_false (by omega)
                          clear h17
                          have HW := Lib.hid (show (Lw.wid (sy : Int)).toNat = 3 from by rw [HSYK.out]; rfl)
                          go_wp2_with fail
                          refine (num_e g A bs (pq + nn) 0 3 wa HEa.out (.inl rfl) (by omega) (by omega)).mono ?_
                          rintro en wz ⟨v6, p6, e6, rfl, hE6, hM6, hN6, hv6a, hv6b, he6⟩
                          obtain ⟨v6n, rfl⟩ := Int.eq_ofNat_of_zero_le hv6a
                          have hv6c : v6n < 8 := by have : ((v6n : Nat) : Int) < 8 := hv6b; omega
                          have HEz := Lib.hid hE6; have HOz := Lib.hid (HOa.out.mods hM6 (by simp; omega)); have HSz := Lib.hid (HSa.out.mods hM6 (by simp; omega)); have HCz := Lib.hid (ReadsInt.mods HCa.out hM6 (fun ad h => by cases h; simp; omega)); have HMz := Lib.hid (HMa.out.trans hM6)
                          have hstz := hE6.short
                          rw [HW.out] at HST
                          by_cases he60 : e6 = 0
                          · subst he60
                            have hstz' : wz.cell? ⟨g, 2, none⟩ = some (.bool false) := hstz
                            clear hstz
                            have hfine : pq + nn + 3 ≤ 8 * bs.length ∧ (v6n : Int) = bitsVal bs (pq + nn) 3 ∧ p6 = pq + nn + 3 := by
                              rcases hN6.fine with ⟨_, _, _, d⟩ | ⟨a, b, c, _⟩
                              · exact absurd d (by decide)
                              · exact ⟨a, b, c⟩
                            obtain ⟨hf1, hf2, rfl⟩ := hfine
                            have HMANY := Lib.hid (show Lw.many ((sy : Int), bitsVal bs (pq + nn) 3, Lw.wid (sy : Int)) = 3 + v6n from by
                              unfold Lw.many; simp only; rw [← hf2, HSYK.out, show Lw.base 17 = 3 from rfl]; omega)
                            rw [if_neg (by omega), HMANY.out] at HST
                            clear hE6 hM6 hN6 hv6a hv6b he6 hf2
                            by_cases hlong : k < o.length + (3 + v6n)
                            · have f1 : decide ((k : Int) < ((o.length : Nat) : Int) + ((3 : Int) + (v6n : Int))) = true := decide_eq_true (by omega)
                              have HL := Lib.hid (HLE0.out 3 (by decide) (by rw [← HST.out, if_pos hlong]))
                              go_wp2_with fail
                              go_ret2
                              exact ⟨HMz.out, .inr ⟨3, rfl, by decide, ⟨_, false, HEz.out.fine⟩, HL.out⟩⟩
                            · have f1 : decide ((k : Int) < ((o.length : Nat) : Int) + ((3 : Int) + (v6n : Int))) = false := decide_eq_false (by omega)
                              rw [if_neg hlong] at HST
                              have HVV := Lib.hid (show ∀ x wb, Lw.val last ((sy : Int), x, wb) = 0 ∧ Lw.lastOf last ((sy : Int), x, wb) = last from fun x wb => by
                                have hsk := HSYK.out
                                unfold Lw.val Lw.lastOf; simp only; constructor <;> (repeat' split) <;> omega)
                              rw [(HVV.out _ _).1, (HVV.out _ _).2] at HST
                              go_wp2_with fail
                              go_loopw [18, 23] (fun av cv wr => ∃ j : Nat, j ≤ (3 + v6n) ∧ cv = .int .i64 j ∧ av = .int .i64 ((o.length + j : Nat) : Int) ∧ Hid (BlkI wr w.heap.size (fillS k o 0 j)) ∧ Hid (Mods [w.heap.size] wz wr)) (fun _ cv _ => (3 + v6n) - (intOf cv).toNat)
                              case atStart => exact ⟨0, by omega, rfl, rfl, Lib.hid (by rw [fillS_zero]; exact HOz.out), Lib.hid (Mods.refl _ _)⟩
                              case round =>
                                obtain ⟨j, hj, rfl, rfl, HOj, HMj⟩ := hrel
                                by_cases hlt : j < (3 + v6n)
                                · have t1 : decide ((j : Int) < ((3 : Int) + (v6n : Int))) = true := decide_eq_true (by omega)
                                  have t1n : decide (j < (3 + v6n)) = true := decide_eq_true hlt
                                  obtain ⟨ax, hax⟩ : ∃ ax, o.length + j = ax := ⟨_, rfl⟩
                                  have HAX := Lib.hid hax
                                  have t2 : (ax : Int) < (k : Int) := by omega
                                  obtain ⟨old, hc1⟩ : ∃ old, wr.cell? ⟨w.heap.size, ax, none⟩ = some (.int .i64 old) := ⟨_, HOj.out.at ax (by rw [fillS_len (by omega)]; omega)⟩
                                  have hf := free_blk HOj.out ax
                                  rw [hax]
                                  clear hax
                                  go_wp2_with fail
                                  go_roundw
                                  case rel =>
                                    have hm := HMj.out.setCell (p := ⟨w.heap.size, ax, none⟩) (.inl (by simp)) (.int .i64 (0))
                                    have ho := HOj.out.set ax (0)
                                    rw [← HAX.out, fillS_next (by have := HAX.out; omega), HAX.out] at ho
                                    exact ⟨j + 1, by omega, by go_num, by have := HAX.out; rw [← this]; go_num, Lib.hid ho, Lib.hid hm⟩
                                  case measure => simp [intOf]; omega
                                · obtain rfl : j = (3 + v6n) := by omega
                                  have t1 : decide (((3 : Int) + (v6n : Int)) < ((3 : Int) + (v6n : Int))) = false := decide_eq_false (by omega)
                                  have HNX := Lib.hid (show NormE w wr g A bs GS GC k sh (rawF bs (p + 1) k) (k - (st + 1)) (pq + nn + 3) (last) (o ++ List.replicate ((3 + v6n)) (0)) from ⟨by rw [show k - (st + 1) = m1 from by have := HM1.out; omega]; exact HST.out, by simp; omega, by rw [← fillS_end]; exact HOj.out, HEz.out.mods HMj.out (by simp; omega) (fun ad e => by have := HA.out ad e; simp; omega), HSz.out.mods HMj.out (by simp; omega), ReadsInt.mods HCz.out HMj.out (fun ad h => by cases h; simp; omega), HMz.out.trans_new HMj.out (by simp)⟩)
                                  go_wp2_with fail
                                  all_goals
                                    go_roundw
                                    case rel => exact ⟨st + 1, _, last, o ++ List.replicate ((3 + v6n)) (0), by omega, by go_num, rfl, by first | rfl | (simp; done), HNX⟩
                                    case measure => simp [intOf]; omega
                          · obtain rfl : e6 = 2 := by omega
                            have hstz' : wz.cell? ⟨g, 2, none⟩ = some (.bool true) := hstz
                            clear hstz
                            have hshort : 8 * bs.length < pq + nn + 3 := by
                              rcases hN6.fine with ⟨a, _⟩ | ⟨_, _, _, d⟩
                              · exact a
                              · exact absurd d (by decide)
                            have HL := Lib.hid (HLE0.out 2 (by decide) (by rw [← HST.out, if_pos hshort]))
                            clear hE6 hM6 hN6 hv6a hv6b he6 hshort
                            go_wp2_with fail
                            go_ret2
                            obtain ⟨q5, hq5, _⟩ := HEz.out
                            exact ⟨HMz.out, .inr ⟨2, rfl, by decide, ⟨q5, _, hq5⟩, HL.out⟩⟩
                        by_cases h18 : sy = 18
                        · skip
                          have HSYK := Lib.hid (show (sy : Int) = 18 from by omega)
                          have k16 : ((sy : Int) == 16) = false := beq_eq_false_iff_ne.2 (by omega)
                          have k17 : ((sy : Int) == 17) = false := beq_eq_false_iff_ne.2 (by omega)
                          have k18 : ((sy : Int) == 18) = true := beq_iff_eq.2 (by omega)
                          have z1 : decide ((0 : Int) < (sy : Int)) = true := decide_eq_true (by omega)
                          have z2 : decide ((sy : Int) < 16) = false := decide_eq_false (by omega)
                          clear h18
                          have HW := Lib.hid (show (Lw.wid (sy : Int)).toNat = 7 from by rw [HSYK.out]; rfl)
                          go_wp2_with fail
                          refine (num_e g A bs (pq + nn) 0 7 wa HEa.out (.inl rfl) (by omega) (by omega)).mono ?_
                          rintro en wz ⟨v6, p6, e6, rfl, hE6, hM6, hN6, hv6a, hv6b, he6⟩
                          obtain ⟨v6n, rfl⟩ := Int.eq_ofNat_of_zero_le hv6a
                          have hv6c : v6n < 128 := by have : ((v6n : Nat) : Int) < 128 := hv6b; omega
                          have HEz := Lib.hid hE6; have HOz := Lib.hid (HOa.out.mods hM6 (by simp; omega)); have HSz := Lib.hid (HSa.out.mods hM6 (by simp; omega)); have HCz := Lib.hid (ReadsInt.mods HCa.out hM6 (fun ad h => by cases h; simp; omega)); have HMz := Lib.hid (HMa.out.trans hM6)
                          have hstz := hE6.short
                          rw [HW.out] at HST
                          by_cases he60 : e6 = 0
                          · subst he60
                            have hstz' : wz.cell? ⟨g, 2, none⟩ = some (.bool false) := hstz
                            clear hstz
                            have hfine : pq + nn + 7 ≤ 8 * bs.length ∧ (v6n : Int) = bitsVal bs (pq + nn) 7 ∧ p6 = pq + nn + 7 := by
                              rcases hN6.fine with ⟨_, _, _, d⟩ | ⟨a, b, c, _⟩
                              · exact absurd d (by decide)
                              · exact ⟨a, b, c⟩
                            obtain ⟨hf1, hf2, rfl⟩ := hfine
                            have HMANY := Lib.hid (show Lw.many ((sy : Int), bitsVal bs (pq + nn) 7, Lw.wid (sy : Int)) = 11 + v6n from by
                              unfold Lw.many; simp only; rw [← hf2, HSYK.out, show Lw.base 18 = 11 from rfl]; omega)
                            rw [if_neg (by omega), HMANY.out] at HST
                            clear hE6 hM6 hN6 hv6a hv6b he6 hf2
                            by_cases hlong : k < o.length + (11 + v6n)
                            · have f1 : decide ((k : Int) < ((o.length : Nat) : Int) + ((11 : Int) + (v6n : Int))) = true := decide_eq_true (by omega)
                              have HL := Lib.hid (HLE0.out 3 (by decide) (by rw [← HST.out, if_pos hlong]))
                              go_wp2_with fail
                              go_ret2
                              exact ⟨HMz.out, .inr ⟨3, rfl, by decide, ⟨_, false, HEz.out.fine⟩, HL.out⟩⟩
                            · have f1 : decide ((k : Int) < ((o.length : Nat) : Int) + ((11 : Int) + (v6n : Int))) = false := decide_eq_false (by omega)
                              rw [if_neg hlong] at HST
                              have HVV := Lib.hid (show ∀ x wb, Lw.val last ((sy : Int), x, wb) = 0 ∧ Lw.lastOf last ((sy : Int), x, wb) = last from fun x wb => by
                                have hsk := HSYK.out
                                unfold Lw.val Lw.lastOf; simp only; constructor <;> (repeat' split) <;> omega)
                              rw [(HVV.out _ _).1, (HVV.out _ _).2] at HST
                              go_wp2_with fail
                              go_loopw [18, 23] (fun av cv wr => ∃ j : Nat, j ≤ (11 + v6n) ∧ cv = .int .i64 j ∧ av = .int .i64 ((o.length + j : Nat) : Int) ∧ Hid (BlkI wr w.heap.size (fillS k o 0 j)) ∧ Hid (Mods [w.heap.size] wz wr)) (fun _ cv _ => (11 + v6n) - (intOf cv).toNat)
                              case atStart => exact ⟨0, by omega, rfl, rfl, Lib.hid (by rw [fillS_zero]; exact HOz.out), Lib.hid (Mods.refl _ _)⟩
                              case round =>
                                obtain ⟨j, hj, rfl, rfl, HOj, HMj⟩ := hrel
                                by_cases hlt : j < (11 + v6n)
                                · have t1 : decide ((j : Int) < ((11 : Int) + (v6n : Int))) = true := decide_eq_true (by omega)
                                  have t1n : decide (j < (11 + v6n)) = true := decide_eq_true hlt
                                  obtain ⟨ax, hax⟩ : ∃ ax, o.length + j = ax := ⟨_, rfl⟩
                                  have HAX := Lib.hid hax
                                  have t2 : (ax : Int) < (k : Int) := by omega
                                  obtain ⟨old, hc1⟩ : ∃ old, wr.cell? ⟨w.heap.size, ax, none⟩ = some (.int .i64 old) := ⟨_, HOj.out.at ax (by rw [fillS_len (by omega)]; omega)⟩
                                  have hf := free_blk HOj.out ax
                                  rw [hax]
                                  clear hax
                                  go_wp2_with fail
                                  go_roundw
                                  case rel =>
                                    have hm := HMj.out.setCell (p := ⟨w.heap.size, ax, none⟩) (.inl (by simp)) (.int .i64 (0))
                                    have ho := HOj.out.set ax (0)
                                    rw [← HAX.out, fillS_next (by have := HAX.out; omega), HAX.out] at ho
                                    exact ⟨j + 1, by omega, by go_num, by have := HAX.out; rw [← this]; go_num, Lib.hid ho, Lib.hid hm⟩
                                  case measure => simp [intOf]; omega
                                · obtain rfl : j = (11 + v6n) := by omega
                                  have t1 : decide (((11 : Int) + (v6n : Int)) < ((11 : Int) + (v6n : Int))) = false := decide_eq_false (by omega)
                                  have HNX := Lib.hid (show NormE w wr g A bs GS GC k sh (rawF bs (p + 1) k) (k - (st + 1)) (pq + nn + 7) (last) (o ++ List.replicate ((11 + v6n)) (0)) from ⟨by rw [show k - (st + 1) = m1 from by have := HM1.out; omega]; exact HST.out, by simp; omega, by rw [← fillS_end]; exact HOj.out, HEz.out.mods HMj.out (by simp; omega) (fun ad e => by have := HA.out ad e; simp; omega), HSz.out.mods HMj.out (by simp; omega), ReadsInt.mods HCz.out HMj.out (fun ad h => by cases h; simp; omega), HMz.out.trans_new HMj.out (by simp)⟩)
                                  go_wp2_with fail
                                  all_goals
                                    go_roundw
                                    case rel => exact ⟨st + 1, _, last, o ++ List.replicate ((11 + v6n)) (0), by omega, by go_num, rfl, by first | rfl | (simp; done), HNX⟩
                                    case measure => simp [intOf]; omega
                          · obtain rfl : e6 = 2 := by omega
                            have hstz' : wz.cell? ⟨g, 2, none⟩ = some (.bool true) := hstz
                            clear hstz
                            have hshort : 8 * bs.length < pq + nn + 7 := by
                              rcases hN6.fine with ⟨a, _⟩ | ⟨_, _, _, d⟩
                              · exact a
                              · exact absurd d (by decide)
                            have HL := Lib.hid (HLE0.out 2 (by decide) (by rw [← HST.out, if_pos hshort]))
                            clear hE6 hM6 hN6 hv6a hv6b he6 hshort
                            go_wp2_with fail
                            go_ret2
                            obtain ⟨q5, hq5, _⟩ := HEz.out
                            exact ⟨HMz.out, .inr ⟨2, rfl, by decide, ⟨q5, _, hq5⟩, HL.out⟩⟩
                        by_cases h0 : sy = 0
                        · skip
                          have k16 : ((sy : Int) == 16) = false := beq_eq_false_iff_ne.2 (by omega)
                          have k17 : ((sy : Int) == 17) = false := beq_eq_false_iff_ne.2 (by omega)
                          have k18 : ((sy : Int) == 18) = false := beq_eq_false_iff_ne.2 (by omega)
                          have z1 : decide ((0 : Int) < (sy : Int)) = false := decide_eq_false (by omega)
                          have z2 : decide ((sy : Int) < 16) = true := decide_eq_true (by omega)
                          have HW := Lib.hid (show (Lw.wid (sy : Int)).toNat = 0 from by unfold Lw.wid; rw [if_neg (by omega), if_neg (by omega), if_neg (by omega)]; rfl)
                          have HEz := HEa; have HOz := HOa; have HSz := HSa; have HCz := HCa; have HMz := HMa
                          have hstz' : wa.cell? ⟨g, 2, none⟩ = some (.bool false) := HEa.out.short
                          have HMANY := Lib.hid (show Lw.many ((sy : Int), bitsVal bs (pq + nn) 0, Lw.wid (sy : Int)) = 1 from by
                            unfold Lw.many Lw.base; simp only; rw [if_neg (by omega), if_neg (by omega), if_neg (by omega)]; rfl)
                          rw [HW.out, if_neg (by omega), HMANY.out] at HST
                          have hf1 : pq + nn + 0 ≤ 8 * bs.length := by omega
                          by_cases hlong : k < o.length + 1
                          · exact absurd hlong (by omega)
                          · have f1 : decide ((k : Int) < ((o.length : Nat) : Int) + 1) = false := decide_eq_false (by omega)
                            rw [if_neg hlong] at HST
                            have HVV := Lib.hid (show ∀ x wb, Lw.val last ((sy : Int), x, wb) = 0 ∧ Lw.lastOf last ((sy : Int), x, wb) = last from fun x wb => by
                              skip
                              unfold Lw.val Lw.lastOf; simp only; constructor <;> (repeat' split) <;> omega)
                            rw [(HVV.out _ _).1, (HVV.out _ _).2] at HST
                            go_wp2_with fail
                            go_loopw [18, 23] (fun av cv wr => ∃ j : Nat, j ≤ 1 ∧ cv = .int .i64 j ∧ av = .int .i64 ((o.length + j : Nat) : Int) ∧ Hid (BlkI wr w.heap.size (fillS k o 0 j)) ∧ Hid (Mods [w.heap.size] wa wr)) (fun _ cv _ => 1 - (intOf cv).toNat)
                            case atStart => exact ⟨0, by omega, rfl, rfl, Lib.hid (by rw [fillS_zero]; exact HOz.out), Lib.hid (Mods.refl _ _)⟩
                            case round =>
                              obtain ⟨j, hj, rfl, rfl, HOj, HMj⟩ := hrel
                              by_cases hlt : j < 1
                              · have t1 : decide ((j : Int) < 1) = true := decide_eq_true (by omega)
                                have t1n : decide (j < 1) = true := decide_eq_true hlt
                                obtain ⟨ax, hax⟩ : ∃ ax, o.length + j = ax := ⟨_, rfl⟩
                                have HAX := Lib.hid hax
                                have t2 : (ax : Int) < (k : Int) := by omega
                                obtain ⟨old, hc1⟩ : ∃ old, wr.cell? ⟨w.heap.size, ax, none⟩ = some (.int .i64 old) := ⟨_, HOj.out.at ax (by rw [fillS_len (by omega)]; omega)⟩
                                have hf := free_blk HOj.out ax
                                rw [hax]
                                clear hax
                                go_wp2_with fail
                                go_roundw
                                case rel =>
                                  have hm := HMj.out.setCell (p := ⟨w.heap.size, ax, none⟩) (.inl (by simp)) (.int .i64 (0))
                                  have ho := HOj.out.set ax (0)
                                  rw [← HAX.out, fillS_next (by have := HAX.out; omega), HAX.out] at ho
                                  exact ⟨j + 1, by omega, by go_num, by have := HAX.out; rw [← this]; go_num, Lib.hid ho, Lib.hid hm⟩
                                case measure => simp [intOf]; omega
                              · obtain rfl : j = 1 := by omega
                                have t1 : decide ((1 : Int) < 1) = false := decide_eq_false (by omega)
                                have HNX := Lib.hid (show NormE w wr g A bs GS GC k sh (rawF bs (p + 1) k) (k - (st + 1)) (pq + nn + 0) (last) (o ++ List.replicate (1) (0)) from ⟨by rw [show k - (st + 1) = m1 from by have := HM1.out; omega]; exact HST.out, by simp; omega, by rw [← fillS_end]; exact HOj.out, HEz.out.mods HMj.out (by simp; omega) (fun ad e => by have := HA.out ad e; simp; omega), HSz.out.mods HMj.out (by simp; omega), ReadsInt.mods HCz.out HMj.out (fun ad h => by cases h; simp; omega), HMz.out.trans_new HMj.out (by simp)⟩)
                                go_wp2_with fail
                                all_goals
                                  go_roundw
                                  case rel => exact ⟨st + 1, _, last, o ++ List.replicate (1) (0), by omega, by go_num, rfl, by first | rfl | (simp; done), HNX⟩
                                  case measure => simp [intOf]; omega
                        have k16 : ((sy : Int) == 16) = false := beq_eq_false_iff_ne.2 (by omega)
                        have k17 : ((sy : Int) == 17) = false := beq_eq_false_iff_ne.2 (by omega)
                        have k18 : ((sy : Int) == 18) = false := beq_eq_false_iff_ne.2 (by omega)
                        have z1 : decide ((0 : Int) < (sy : Int)) = true := decide_eq_true (by omega)
                        have z2 : decide ((sy : Int) < 16) = true := decide_eq_true (by omega)
                        have HW := Lib.hid (show (Lw.wid (sy : Int)).toNat = 0 from by unfold Lw.wid; rw [if_neg (by omega), if_neg (by omega), if_neg (by omega)]; rfl)
                        have HEz := HEa; have HOz := HOa; have HSz := HSa; have HCz := HCa; have HMz := HMa
                        have hstz' : wa.cell? ⟨g, 2, none⟩ = some (.bool false) := HEa.out.short
                        have HMANY := Lib.hid (show Lw.many ((sy : Int), bitsVal bs (pq + nn) 0, Lw.wid (sy : Int)) = 1 from by
                          unfold Lw.many Lw.base; simp only; rw [if_neg (by omega), if_neg (by omega), if_neg (by omega)]; rfl)
                        rw [HW.out, if_neg (by omega), HMANY.out] at HST
                        have hf1 : pq + nn + 0 ≤ 8 * bs.length := by omega
                        by_cases hlong : k < o.length + 1
                        · exact absurd hlong (by omega)
                        · have f1 : decide ((k : Int) < ((o.length : Nat) : Int) + 1) = false := decide_eq_false (by omega)
                          rw [if_neg hlong] at HST
                          have HVV := Lib.hid (show ∀ x wb, Lw.val last ((sy : Int), x, wb) = (sy : Int) ∧ Lw.lastOf last ((sy : Int), x, wb) = (sy : Int) from fun x wb => by
                            skip
                            unfold Lw.val Lw.lastOf; simp only; constructor <;> (repeat' split) <;> omega)
                          rw [(HVV.out _ _).1, (HVV.out _ _).2] at HST
                          go_wp2_with fail
                          go_loopw [18, 23] (fun av cv wr => ∃ j : Nat, j ≤ 1 ∧ cv = .int .i64 j ∧ av = .int .i64 ((o.length + j : Nat) : Int) ∧ Hid (BlkI wr w.heap.size (fillS k o (sy : Int) j)) ∧ Hid (Mods [w.heap.size] wa wr)) (fun _ cv _ => 1 - (intOf cv).toNat)
                          case atStart => exact ⟨0, by omega, rfl, rfl, Lib.hid (by rw [fillS_zero]; exact HOz.out), Lib.hid (Mods.refl _ _)⟩
                          case round =>
                            obtain ⟨j, hj, rfl, rfl, HOj, HMj⟩ := hrel
                            by_cases hlt : j < 1
                            · have t1 : decide ((j : Int) < 1) = true := decide_eq_true (by omega)
                              have t1n : decide (j < 1) = true := decide_eq_true hlt
                              obtain ⟨ax, hax⟩ : ∃ ax, o.length + j = ax := ⟨_, rfl⟩
                              have HAX := Lib.hid hax
                              have t2 : (ax : Int) < (k : Int) := by omega
                              obtain ⟨old, hc1⟩ : ∃ old, wr.cell? ⟨w.heap.size, ax, none⟩ = some (.int .i64 old) := ⟨_, HOj.out.at ax (by rw [fillS_len (by omega)]; omega)⟩
                              have hf := free_blk HOj.out ax
                              rw [hax]
                              clear hax
                              go_wp2_with fail
                              go_roundw
                              case rel =>
                                have hm := HMj.out.setCell (p := ⟨w.heap.size, ax, none⟩) (.inl (by simp)) (.int .i64 ((sy : Int)))
                                have ho := HOj.out.set ax ((sy : Int))
                                rw [← HAX.out, fillS_next (by have := HAX.out; omega), HAX.out] at ho
                                exact ⟨j + 1, by omega, by go_num, by have := HAX.out; rw [← this]; go_num, Lib.hid ho, Lib.hid hm⟩
                              case measure => simp [intOf]; omega
                            · obtain rfl : j = 1 := by omega
                              have t1 : decide ((1 : Int) < 1) = false := decide_eq_false (by omega)
                              have HNX := Lib.hid (show NormE w wr g A bs GS GC k sh (rawF bs (p + 1) k) (k - (st + 1)) (pq + nn + 0) ((sy : Int)) (o ++ List.replicate (1) ((sy : Int))) from ⟨by rw [show k - (st + 1) = m1 from by have := HM1.out; omega]; exact HST.out, by simp; omega, by rw [← fillS_end]; exact HOj.out, HEz.out.mods HMj.out (by simp; omega) (fun ad e => by have := HA.out ad e; simp; omega), HSz.out.mods HMj.out (by simp; omega), ReadsInt.mods HCz.out HMj.out (fun ad h => by cases h; simp; omega), HMz.out.trans_new HMj.out (by simp)⟩)
                              go_wp2_with fail
                              all_goals
                                go_roundw
                                case rel => exact ⟨st + 1, _, (sy : Int), o ++ List.replicate (1) ((sy : Int)), by omega, by go_num, rfl, by first | rfl | (simp; done), HNX⟩
                                case measure => simp [intOf]; omega
                      · have HL := Lib.hid (HLE0.out 2 (by decide) (by rw [← HST.out, if_pos (by omega)]))
                        have HEa := Lib.hid hEa
                        clear hEa
                        go_wp2_with fail
                        go_ret2
                        obtain ⟨q5, hq5, _⟩ := HEa.out
                        exact ⟨HMa.out, .inr ⟨2, rfl, by decide, ⟨q5, _, hq5⟩, HL.out⟩⟩
                    · have c3 : decide (((o.length : Nat) : Int) < (k : Int)) = false := decide_eq_false (by omega)
                      have c4 : decide (o.length < k) = false := decide_eq_false hat
                      have HR := Lib.hid (show rawF bs (p + 1) k = .ok (padS k o) pq from HN.out.res.symm.trans (stepsF_end (.inr (by omega))))
                      have HPL := Lib.hid (padS_len holen)
                      have HRo := Lib.hid (blk_reads HN.out.own HPL.out (by omega))
                      go_wp2_with fail
                      refine (refCheck_any (some ⟨w.heap.size, 0, none⟩) k k (padS k o) wr HRo.out (by omega)).mono ?_
                      rintro en w' ⟨rfl, rfl⟩
                      have HLF := Lib.hid (HLO0.out _ _ HR.out)
                      by_cases hc : checkS (padS k o) = 0
                      · rw [if_pos hc] at HLF
                        have HC := Lib.hid hc
                        rw [hc]
                        clear hc
                        go_wp2_with fail
                        go_ret2
                        exact ⟨HN.out.mods, .inl ⟨w.heap.size, padS k o, pq, rfl, Nat.le_refl _, HN.out.own, HPL.out, HC.out, HN.out.eye.fine, HLF.out⟩⟩
                      · rw [if_neg hc] at HLF
                        have hcb : (checkS (padS k o) != 0) = true := by simp [hc]
                        generalize checkS (padS k o) = cc at *
                        go_wp2_with fail
                        go_ret2
                        exact ⟨HN.out.mods, .inr ⟨3, rfl, by decide, ⟨pq, false, HN.out.eye.fine⟩, HLF.out⟩⟩
                  · have c1 : decide ((st : Int) < (k : Int)) = false := decide_eq_false (by omega)
                    have c2 : decide (st < k) = false := decide_eq_false hst
                    have HR := Lib.hid (show rawF bs (p + 1) k = .ok (padS k o) pq from HN.out.res.symm.trans (stepsF_end (.inl (by omega))))
                    have HPL := Lib.hid (padS_len holen)
                    have HRo := Lib.hid (blk_reads HN.out.own HPL.out (by omega))
                    go_wp2_with fail
                    refine (refCheck_any (some ⟨w.heap.size, 0, none⟩) k k (padS k o) wr HRo.out (by omega)).mono ?_
                    rintro en w' ⟨rfl, rfl⟩
                    have HLF := Lib.hid (HLO0.out _ _ HR.out)
                    by_cases hc : checkS (padS k o) = 0
                    · rw [if_pos hc] at HLF
                      have HC := Lib.hid hc
                      rw [hc]
                      clear hc
                      go_wp2_with fail
                      go_ret2
                      exact ⟨HN.out.mods, .inl ⟨w.heap.size, padS k o, pq, rfl, Nat.le_refl _, HN.out.own, HPL.out, HC.out, HN.out.eye.fine, HLF.out⟩⟩
                    · rw [if_neg hc] at HLF
                      have hcb : (checkS (padS k o) != 0) = true := by simp [hc]
                      generalize checkS (padS k o) = cc at *
                      go_wp2_with fail
                      go_ret2
                      exact ⟨HN.out.mods, .inr ⟨3, rfl, by decide, ⟨pq, false, HN.out.eye.fine⟩, HLF.out⟩⟩
            · obtain rfl : e10 = 2 := by have := HXt.out; omega
              have hst' : w10.cell? ⟨g, 2, none⟩ = some (.bool true) := hst
              clear hst
              have HL := Lib.hid (HLE0.out 2 (by decide) (by
                have h := HMO.out
                rw [HHP.out, if_neg (by omega)] at h
                exact (raw_most HHE.out h (by omega)).1 (by decide)))
              go_wp2_with fail
              go_ret2
              obtain ⟨q5, hq5, _⟩ := HEt.out
              exact ⟨HMt.out, .inr ⟨2, rfl, by decide, ⟨q5, _, hq5⟩, HL.out⟩⟩
        · have hh := HHA.out 3 (fun h => absurd rfl h) (fun _ => by rw [if_neg hck])
          have he20 : e2 = 0 ∧ 3 = headE bs p2 := by
            rcases hh.1 with ⟨a, b⟩ | h
            · exfalso; have := HX2.out; omega
            · exact h
          obtain ⟨rfl, hhe⟩ := he20
          obtain rfl := HPP.out rfl
          have HL := Lib.hid (HLE.out 3 (by decide) rfl (by unfold rawF; rw [if_pos (by rw [← hhe]; decide), ← hhe]))
          have hcb : (checkS sh != 0) = true := by simp [hck]
          clear hh hhe
          generalize checkS sh = cc at *
          go_wp2_with fail
          go_ret2
          exact ⟨HMr.out, .inr ⟨3, rfl, by decide, ⟨pp, false, HEr.out.fine⟩, HL.out⟩⟩
      · obtain rfl : ee = 2 := by omega
        have hsh' : wr.cell? ⟨g, 2, none⟩ = some (.bool true) := hsh
        clear hsh
        have hh := (HHA.out 2 (fun _ => rfl) (fun h => absurd h (by decide))).1
        have HL := Lib.hid (show lensF bs p k = .err 2 from by
          rcases hh with ⟨a, _⟩ | ⟨rfl, b⟩
          · exact HL2.out a
          · obtain rfl := HPP.out rfl
            exact HLE.out 2 (by decide) rfl (by unfold rawF; rw [if_pos (by rw [← b]; decide), ← b]))
        clear hh
        go_wp2_with fail
        go_ret2
        obtain ⟨q5, hq5, _⟩ := HEr.out
        exact ⟨HMr.out, .inr ⟨2, rfl, by decide, ⟨q5, _, hq5⟩, HL.out⟩⟩
end Go.Proofs.Ytbljoihnjhllhaa
