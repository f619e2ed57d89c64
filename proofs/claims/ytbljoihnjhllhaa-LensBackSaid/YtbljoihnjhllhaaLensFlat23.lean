/- lens.(*source).normal, of any bits. -/
import Derived.Test.YtbljoihnjhllhaaLensFlat22
namespace Go.Proofs.Ytbljoihnjhllhaa
open Go.RowKit
open Go.Proofs.YtbljoihnjhllhaaW.PrintWords
open Srt

theorem tree_any (B hi g : Nat) (ls os : List Int) (A : Option Addr) (bs : List Int) (p n s : Nat) (w : World) (ht : IsTree w B hi ls os) (hs : Sym ls bs p n s) (hk : ∀ w', Mods [g] w w' → IsTree w' B hi ls os) (h : Rdr w g A bs p false) :
    Calls Try.prog 44 #[.pointer (some ⟨B, 0, none⟩), .pointer (some ⟨g, 0, none⟩)] w fun e w' => ∃ v er q o, e = .returned (.tuple #[.int .i64 v, .int .i64 er]) ∧ Rdr w' g A bs q o ∧ Mods [g] w w' ∧ ((p + n ≤ 8 * bs.length ∧ v = (s : Int) ∧ er = 0 ∧ q = p + n ∧ o = false) ∨ (8 * bs.length < p + n ∧ v = 0 ∧ er = 2)) := by
  rcases hs with ⟨h1, rfl, hx⟩ | ⟨h1, hf⟩
  · refine (read_one B hi g ls os A bs p w ht h1 h).mono ?_
    rintro e w' ⟨rfl, rfl⟩
    exact ⟨_, _, p, false, rfl, h, Mods.refl _ _, .inl ⟨h.1, hx, rfl, rfl, rfl⟩⟩
  · by_cases hp : p + n ≤ 8 * bs.length
    · refine (read_in_k B hi g ls os A bs p n s w ht h1 h hk hf hp).mono ?_
      rintro e w' ⟨rfl, hR, hM⟩
      exact ⟨_, _, _, _, rfl, hR, hM, .inl ⟨hp, rfl, rfl, rfl, rfl⟩⟩
    · refine (read_out_k B hi g ls os A bs p n s w ht h1 h hk hf (by omega)).mono ?_
      rintro e w' ⟨rfl, hR, hM⟩
      exact ⟨_, _, _, _, rfl, hR, hM, .inr ⟨by omega, rfl, rfl⟩⟩
/-- Lengths that are told, some of one more, the rest nought. -/
def fillS (k : Nat) (o : List Int) (v : Int) (j : Nat) : List Int := o ++ List.replicate j v ++ List.replicate (k - o.length - j) 0
theorem fillS_zero (k : Nat) (o : List Int) (v : Int) : fillS k o v 0 = padS k o := by simp [fillS, padS]
theorem fillS_len {k : Nat} {o : List Int} {v : Int} {j : Nat} (h : o.length + j ≤ k) : (fillS k o v j).length = k := by simp [fillS]; omega
theorem fillS_next {k : Nat} {o : List Int} {v : Int} {j : Nat} (h : o.length + j < k) : (fillS k o v j).set (o.length + j) v = fillS k o v (j + 1) := by
  unfold fillS
  rw [show k - o.length - j = (k - o.length - (j + 1)) + 1 from by omega, List.replicate_succ]
  rw [List.set_append_right _ _ (by simp)]
  simp only [List.length_append, List.length_replicate, Nat.sub_self, List.set_cons_zero]
  rw [List.replicate_succ', List.append_assoc, List.append_assoc, List.append_assoc]
  rfl
theorem fillS_end (k : Nat) (o : List Int) (v : Int) (n : Nat) : fillS k o v n = padS k (o ++ List.replicate n v) := by
  simp [fillS, padS, Nat.sub_sub]
theorem padS_len {k : Nat} {o : List Int} (h : o.length ≤ k) : (padS k o).length = k := by simp [padS]; omega
/-- Behind the first bit, that is 0: before the lengths are checked. -/
noncomputable def rawF (bs : List Int) (p n : Nat) : Res :=
  if headE bs p ≠ 0 then .err (headE bs p) else
  let m := mostF bs n (headP bs p)
  if 8 * bs.length < m.1 ∨ m.2.2 = false then .err 2 else
  if n < m.2.1 then .err 3 else
  stepsF (headS bs p) bs n m.2.1 m.1 8 []
theorem most_all {bs : List Int} {p n : Nat} {m : Int} {p' : Nat} {e' : Int} (h : MostR bs p 0 n m p' e') (_hm : 0 ≤ m) :
    (e' ≠ 0 ∧ e' = (if 8 * bs.length < (mostF bs n p).1 ∨ (mostF bs n p).2.2 = false then 2 else 3) ∧ (¬ (8 * bs.length < (mostF bs n p).1 ∨ (mostF bs n p).2.2 = false) → n < (mostF bs n p).2.1)) ∨
    (e' = 0 ∧ ¬ (8 * bs.length < (mostF bs n p).1 ∨ (mostF bs n p).2.2 = false) ∧ ¬ n < (mostF bs n p).2.1 ∧ p' = (mostF bs n p).1 ∧ m = ((mostF bs n p).2.1 : Int)) := by
  obtain ⟨v1, v2, v3, p1, p2, p3, e1, e2, e3, h1, h2⟩ := h
  have b0 := bitAt_bounds bs p
  rcases h1.fine with ⟨a1, a2, a3, a4⟩ | ⟨a1, a2, a3, a4⟩
  · rcases h2 with ⟨_, _, _, q⟩ | ⟨q, _⟩
    · refine .inl ⟨by rw [q, a4]; decide, ?_, fun hn => ?_⟩
      · have e : mostF bs n p = (p + 1, n, true) := by unfold mostF; rw [if_neg (by rw [bitAt_end (by omega)]; decide)]
        rw [e, if_pos (.inl (by simp; omega)), q, a4]
      · have e : mostF bs n p = (p + 1, n, true) := by unfold mostF; rw [if_neg (by rw [bitAt_end (by omega)]; decide)]
        rw [e] at hn; exact absurd (.inl (by simp; omega)) hn
    · exact absurd a2 q
  · rw [bitsVal_one] at a2
    subst a3 a4
    rcases h2 with ⟨q0, q1, q2, q3⟩ | ⟨q0, q1, q2, q3, q4, q5⟩
    · have e : mostF bs n p = (p + 1, n, true) := by unfold mostF; rw [if_neg (by omega)]
      rw [e]
      exact .inr ⟨q3, by simp; omega, by simp, q2, q1⟩
    · have hb : bitAt bs p = 1 := by omega
      have e : mostF bs n p = (p + 4 + (2 + 2 * (bitsVal bs (p + 1) 3).toNat), (bitsVal bs (p + 4) (2 + 2 * (bitsVal bs (p + 1) 3).toNat)).toNat + 2, decide (p + 4 ≤ 8 * bs.length)) := by unfold mostF; rw [if_pos hb]
      rw [e]
      simp only
      rcases q1.fine with ⟨c1, c2, c3, c4⟩ | ⟨c1, c2, c3, c4⟩
      · subst c2 c3 c4
        obtain ⟨d1, d2, d3⟩ := q2.err (by decide)
        subst d1 d2 d3
        have hx : e' = 2 := by rw [q5]; split <;> simp
        refine .inl ⟨by rw [hx]; decide, by rw [if_pos (.inr (decide_eq_false (by omega))), hx], fun hn => absurd (.inr (decide_eq_false (by omega))) hn⟩
      · subst c2 c3 c4
        rcases q2.fine with ⟨d1, d2, d3, d4⟩ | ⟨d1, d2, d3, d4⟩
        · subst d2 d3 d4
          have hx : e' = 2 := by rw [q5]; split <;> simp
          refine .inl ⟨by rw [hx]; decide, by rw [if_pos (.inl (by omega)), hx], fun hn => absurd (.inl (by omega)) hn⟩
        · have hv := bitsVal_nonneg bs (p + 4) (2 + 2 * (bitsVal bs (p + 1) 3).toNat)
          have e4 : p + 1 + 3 = p + 4 := by omega
          rw [e4] at d2
          have hno : ¬ (8 * bs.length < p + 4 + (2 + 2 * (bitsVal bs (p + 1) 3).toNat) ∨ decide (p + 4 ≤ 8 * bs.length) = false) := by
            rintro (h | h)
            · omega
            · exact absurd (of_decide_eq_false h) (by omega)
          rw [← d2] at hv ⊢
          by_cases hgt : (n : Int) < m
          · rw [if_pos hgt, if_pos d4] at q5
            refine .inl ⟨by rw [q5]; decide, by rw [if_neg hno, q5], fun _ => by omega⟩
          · rw [if_neg hgt] at q5
            exact .inr ⟨by rw [q5, d4], hno, by omega, by omega, by omega⟩

theorem most_err {bs : List Int} {p n : Nat} {e m : Int} {p' : Nat} {e' : Int} (h : MostR bs p e n m p' e') (he : e ≠ 0) : e' = e := by
  obtain ⟨v1, v2, v3, p1, p2, p3, e1, e2, e3, h1, h2⟩ := h
  obtain ⟨a, _, c⟩ := h1.err he
  rcases h2 with ⟨_, _, _, q⟩ | ⟨q, _⟩
  · rw [q, c]
  · exact absurd a q
theorem stepsF_next (sh bs : List Int) (k m p : Nat) (last : Int) (o : List Int) (ho : o.length < k) : stepsF sh bs k (m + 1) p last o =
    if 8 * bs.length < p + symN sh bs p + (Lw.wid (symS sh bs p : Int)).toNat then .err 2 else
    if k < o.length + Lw.many ((symS sh bs p : Int), bitsVal bs (p + symN sh bs p) (Lw.wid (symS sh bs p : Int)).toNat, Lw.wid (symS sh bs p : Int)) then .err 3 else
    stepsF sh bs k m (p + symN sh bs p + (Lw.wid (symS sh bs p : Int)).toNat) (Lw.lastOf last ((symS sh bs p : Int), bitsVal bs (p + symN sh bs p) (Lw.wid (symS sh bs p : Int)).toNat, Lw.wid (symS sh bs p : Int))) (o ++ List.replicate (Lw.many ((symS sh bs p : Int), bitsVal bs (p + symN sh bs p) (Lw.wid (symS sh bs p : Int)).toNat, Lw.wid (symS sh bs p : Int))) (Lw.val last ((symS sh bs p : Int), bitsVal bs (p + symN sh bs p) (Lw.wid (symS sh bs p : Int)).toNat, Lw.wid (symS sh bs p : Int)))) := by
  conv => lhs; unfold stepsF
  rw [if_neg (by omega)]
/-- What the rounds know. -/
structure NormX (w wr : World) (S g G base k : Nat) (A : Option Addr) (bs : List Int) (B hi lo : Nat) (sh os : List Int) (R : Res) (m p : Nat) (last : Int) (o : List Int) : Prop where
  res : stepsF sh bs k m p last o = R
  len : o.length ≤ k
  own : wr.ownsRow base 3 1 (.slice (some ⟨G, 0, none⟩) k k) k (nums .i64 (padS k o))
  src : Srx wr S g A bs p 0
  tree : IsTree wr B hi sh os
  abv : Above wr B lo
  mods : Mods [S, g, G] w wr
set_option maxRecDepth 100000 in
set_option maxHeartbeats 16000000 in
theorem normal_any (S g G base : Nat) (A : Option Addr) (bs : List Int) (p : Nat) (e : Int) (k : Nat) (w : World) (h : Srx w S g A bs p e)
    (hG : G ≠ S ∧ G ≠ g ∧ ∀ ad, A = some ad → ad.block ≠ G) (hGw : G < w.heap.size) (hAw : ∀ ad, A = some ad → ad.block < w.heap.size) (hO : w.ownsRow base 3 1 (.slice (some ⟨G, 0, none⟩) k k) k (nums .i64 (zeros k))) (hk : 1 ≤ k ∧ k ≤ 4096) :
    Calls Try.prog 31 #[.pointer (some ⟨S, 0, none⟩), .slice (some ⟨G, 0, none⟩) k k] w fun en w' => en = .returned (.tuple #[]) ∧ ∃ out p' e', w'.ownsRow base 3 1 (.slice (some ⟨G, 0, none⟩) k k) k (nums .i64 out) ∧ out.length = k ∧
      Srx w' S g A bs p' e' ∧ Mods [S, g, G] w w' ∧ (e ≠ 0 → e' = e) ∧ (e = 0 → rawF bs p k = resE e' out p') := by
  have H := Lib.hid h; have HO := Lib.hid hO; have HG := Lib.hid hG; have HAW := Lib.hid hAw
  have hSw : S < w.heap.size := blk_lt h.blk
  have hgw : g < w.heap.size := by obtain ⟨q, o, hr, _⟩ := h.rdr; exact hr.lt
  clear h hO hG hAw
  go_enter Try.func31, Try.ntmps31
  go_wp2_with fail
  refine (short_any S g A bs p e w H.out HAW.out).mono ?_
  rintro en w1 ⟨tv, p1, e1, rfl, hS1, hM1, hE1, hT1⟩
  have HS1 := Lib.hid hS1; have HM1 := Lib.hid hM1; have HE1 := Lib.hid hE1; have HT1 := Lib.hid hT1
  clear hS1 hM1 hE1 hT1
  go_wp2_with fail
  refine (steps_any S g A bs p1 e1 k w1 HS1.out (by omega)).mono ?_
  rintro en w2 ⟨m, p2, e2, rfl, hS2, hM2, hN2, hm0, hm1⟩
  obtain ⟨m', rfl⟩ := Int.eq_ofNat_of_zero_le hm0
  have HS2 := Lib.hid hS2; have HM2 := Lib.hid (HM1.out.trans hM2); have HN2 := Lib.hid hN2; have HM12 := Lib.hid hM2
  have HO2 := Lib.hid (own_mods HO.out HM2.out (by have := HG.out; simp; exact ⟨this.1, this.2.1⟩))
  have hs2 : w2.cell? ⟨S, 1, none⟩ = some (.int .i64 e2) := by rw [cell_blk hS2.blk]; rfl
  have hs20 : w2.cell? ⟨S, 0, none⟩ = some (.pointer (some ⟨g, 0, none⟩)) := by rw [cell_blk hS2.blk]; rfl
  have q1 : decide ((0 : Int) < (k : Int)) = true := decide_eq_true (by omega)
  clear hS2 hM2 hN2
  by_cases he2 : e2 = 0
  · subst he2
    have he1 : e1 = 0 := by
      rcases Classical.em (e1 = 0) with q | q
      · exact q
      · exact absurd (most_err HN2.out q).symm q
    subst he1
    have he0 : e = 0 ∧ headE bs p = 0 := by
      rcases HE1.out with ⟨a, b⟩ | ⟨a, b⟩
      · exact absurd b.symm a
      · exact ⟨a, b.symm⟩
    obtain ⟨he, hhe⟩ := he0
    subst he
    obtain ⟨hp1, B, os, rfl, hBw, hT1, hA1⟩ := HT1.out rfl
    have hall := most_all HN2.out hm0
    rcases hall with ⟨a, _⟩ | ⟨_, hno, hnl, hp2, hmm⟩
    · exact absurd rfl a
    have hmm' : m' = (mostF bs k p1).2.1 := by omega
    have HRES := Lib.hid (show rawF bs p k = stepsF (headS bs p) bs k m' p2 8 [] from by
      unfold rawF
      rw [if_neg (fun q => q hhe)]
      simp only
      rw [← hp1, if_neg hno, if_neg hnl, ← hp2, ← hmm'])
    have hz1 := HM1.out.size
    have hT2 := hT1.keep hA1 HM12.out (by simp; omega)
    have HCK := Lib.hid hT1.2.2.2.1
    have HL19 := Lib.hid (shortF_length bs (p + 4) (headK bs p))
    generalize hsh : headS bs p = sh at *
    have HN0 := Lib.hid (show NormX w w2 S g G base k A bs B w1.heap.size w.heap.size sh os (rawF bs p k) m' p2 8 [] from ⟨HRES.out.symm, by simp, by rw [show padS k [] = zeros k from by simp [padS, zeros]]; exact HO2.out, HS2.out, hT2.1, hT2.2, HM2.out.mono (by simp)⟩)
    have HSH := Lib.hid (show sh.length = 19 from by rw [← hsh]; exact HL19.out)
    generalize w1.heap.size = hi at *
    clear hno hnl hp2 hmm hmm' hT2 hT1 hA1 HT1 HE1 HN2 hs2 hs20 hsh HL19
    go_wp2_with fail
    go_loopw [5, 6, 7, 8, 9, 10, 11, 75] (fun mv lv av _ _ _ _ _ wr => ∃ (m pp : Nat) (last : Int) (o : List Int), m ≤ m' ∧ mv = .int .i64 m ∧ lv = .int .i64 last ∧ av = .int .i64 o.length ∧ Hid (NormX w wr S g G base k A bs B hi w.heap.size sh os (rawF bs p k) m pp last o)) (fun mv _ _ _ _ _ _ _ _ => (intOf mv).toNat)
    case atStart => exact ⟨m', p2, 8, [], Nat.le_refl _, rfl, rfl, rfl, HN0⟩
    case round =>
      clear HN0
      obtain ⟨m, pp, last, o, hmle, rfl, rfl, rfl, HN⟩ := hrel
      have hs0 : wr.cell? ⟨S, 0, none⟩ = some (.pointer (some ⟨g, 0, none⟩)) := by rw [cell_blk HN.out.src.blk]; rfl
      have hs1 : wr.cell? ⟨S, 1, none⟩ = some (.int .i64 0) := by rw [cell_blk HN.out.src.blk]; rfl
      have holen := HN.out.len
      by_cases hat : o.length < k
      · have q2 : decide (((o.length : Nat) : Int) < (k : Int)) = true := decide_eq_true (by omega)
        by_cases hm : 0 < m
        · have q3 : decide ((0 : Int) < (m : Int)) = true := decide_eq_true (by omega)
          have hsy := sym_is HCK.out bs pp
          have hhas := sym_has HCK.out hsy
          obtain ⟨nn, hnn⟩ : ∃ nn, symN sh bs pp = nn := ⟨_, rfl⟩
          obtain ⟨sy, hsym⟩ : ∃ sy, symS sh bs pp = sy := ⟨_, rfl⟩
          rw [hnn, hsym] at hsy
          rw [hsym, HSH.out] at hhas
          have hsy19 := hhas.1
          have hRd : Rdr wr g A bs pp false := by
            obtain ⟨q, o', hr, h0⟩ := HN.out.src.rdr
            obtain ⟨rfl, rfl⟩ := h0 rfl
            exact hr
          have HTA := Lib.hid (tree_any B hi g sh os A bs pp nn sy wr HN.out.tree hsy (fun w' hm' => (HN.out.tree.keep HN.out.abv hm' (by simp; omega)).1) hRd)
          have HNN := Lib.hid hnn; have HSY := Lib.hid hsym
          clear hsy hhas hRd hnn hsym
          go_wp2_with fail
          refine HTA.out.mono ?_
          rintro en w4 ⟨v, er, q, o', rfl, hR4, hM4, hcase⟩
          rcases hcase with ⟨c1, c2, c3, c4, c5⟩ | ⟨c1, c2, c3⟩
          · subst c2 c3 c4 c5
            have hS4 : Srx w4 S g A bs (pp + nn) 0 := ⟨hM4.blk HN.out.src.blk (by simpa using HN.out.src.ne), HN.out.src.ne, HN.out.src.far, _, _, hR4, fun _ => ⟨rfl, rfl⟩⟩
            have HS4 := Lib.hid hS4
            have hT4 := HN.out.tree.keep HN.out.abv hM4 (by simp; omega)
            have HO4 := Lib.hid (own_mods HN.out.own hM4 (by simpa using HG.out.2.1))
            have HM4 := Lib.hid (HN.out.mods.trans (hM4.mono (R := [S, g, G]) (by simp)))
            clear hS4 hM4 hR4 hs0 hs1
            go_wp2_with fail
            refine (fail_any S g A bs (pp + nn) 0 0 w4 HS4.out).mono ?_
            rintro en w5 ⟨rfl, hS5, hM5⟩
            rw [if_pos rfl] at hS5
            have HS5 := Lib.hid hS5
            have hT5 := hT4.1.keep hT4.2 hM5 (by simp; omega)
            have HO5 := Lib.hid (own_mods HO4.out hM5 (by simpa using HG.out.1))
            have HM5 := Lib.hid (HM4.out.trans (hM5.mono (R := [S, g, G]) (by simp)))
            clear hS5 hM5 hT4 HO4
            go_wp2_with fail
            refine (run_any S g A bs (pp + nn) 0 (sy : Int) w5 HS5.out).mono ?_
            rintro en w6 ⟨x, p6, e6, rfl, hS6, hM6, hRun, hx0, hx1⟩
            have HS6 := Lib.hid hS6
            have HT6 := Lib.hid (hT5.1.keep hT5.2 hM6 (by simp; omega))
            have HO6 := Lib.hid (own_mods HO5.out hM6 (by have := HG.out; simp; exact ⟨this.1, this.2.1⟩))
            have HM6 := Lib.hid (HM5.out.trans (hM6.mono (R := [S, g, G]) (by simp)))
            have hs6 : w6.cell? ⟨S, 1, none⟩ = some (.int .i64 e6) := by rw [cell_blk hS6.blk]; rfl
            obtain ⟨wb, hwb, hwb7⟩ := wid_nat (sy : Int)
            have hrun : (e6 = 2 ∧ 8 * bs.length < pp + nn + wb) ∨ (e6 = 0 ∧ pp + nn + wb ≤ 8 * bs.length ∧ x = bitsVal bs (pp + nn) wb ∧ p6 = pp + nn + wb) := by
              unfold RunR at hRun
              rw [hwb, Int.toNat_natCast] at hRun
              by_cases hw0 : wb = 0
              · rw [if_pos hw0] at hRun
                obtain ⟨a, b, c⟩ := hRun
                subst hw0
                exact .inr ⟨c, by omega, by rw [a]; rfl, by omega⟩
              · rw [if_neg hw0] at hRun
                rcases hRun.fine with ⟨a, _, _, d⟩ | ⟨a, b, c, d⟩
                · exact .inl ⟨d, a⟩
                · exact .inr ⟨d, a, b, c⟩
            obtain ⟨m1, rfl⟩ : ∃ m1, m = m1 + 1 := ⟨m - 1, by omega⟩
            have HST := Lib.hid (stepsF_next sh bs k m1 pp last o hat)
            rw [HNN.out, HSY.out, hwb, Int.toNat_natCast] at HST
            clear hS6 hM6 hRun hT5 HO5
            rcases hrun with ⟨a1, a2⟩ | ⟨a1, a2, a3, a4⟩
            · subst a1
              have HRR := Lib.hid (show rawF bs p k = resE 2 (padS k o) p6 from by rw [← HN.out.res, HST.out, if_pos a2]; rfl)
              go_wp2_with fail
              refine bodyPost_ret (results_none rfl _ _ _) rfl ?_
              exact ⟨rfl, padS k o, HO6.out, padS_len holen, p6, 2, HS6.out, HM6.out, HRR.out⟩
            · subst a1 a4
              rw [if_neg (by omega), ← a3] at HST
              obtain ⟨nr, hnr⟩ : ∃ nr : Nat, Lw.base (sy : Int) + x = nr := Int.eq_ofNat_of_zero_le (by
                have : 0 ≤ Lw.base (sy : Int) := by unfold Lw.base; split <;> (try split) <;> (try split) <;> omega
                omega)
              have hmany : Lw.many ((sy : Int), x, (wb : Int)) = nr := by unfold Lw.many; simp only; rw [hnr]; simp
              rw [hmany] at HST
              rw [hnr]
              have hnrb : nr ≤ 150 := by
                have : Lw.base (sy : Int) ≤ 11 := by unfold Lw.base; split <;> (try split) <;> (try split) <;> omega
                omega
              have j1 : wrap64 ((k : Int) - (o.length : Int)) = (k : Int) - (o.length : Int) := w64 _ (by omega) (by omega)
              clear a3 hmany
              by_cases hlong : k < o.length + nr
              · have d4 : decide ((k : Int) - (o.length : Int) < (nr : Int)) = true := decide_eq_true (by omega)
                have HRR := Lib.hid (show rawF bs p k = resE 3 (padS k o) (pp + nn + wb) from by rw [← HN.out.res, HST.out, if_pos hlong]; rfl)
                go_wp2_with fail
                refine (fail_any S g A bs (pp + nn + wb) 0 3 w6 HS6.out).mono ?_
                rintro en w7 ⟨rfl, hS7, hM7⟩
                rw [if_pos rfl] at hS7
                have HS7 := Lib.hid hS7; have HM7 := Lib.hid (HM6.out.trans (hM7.mono (R := [S, g, G]) (by simp)))
                have HO7 := Lib.hid (own_mods HO6.out hM7 (by simpa using HG.out.1))
                clear hS7 hM7
                go_wp2_with fail
                refine bodyPost_ret (results_none rfl _ _ _) rfl ?_
                exact ⟨rfl, padS k o, HO7.out, padS_len holen, _, 3, HS7.out, HM7.out, HRR.out⟩
              · have d4 : decide ((k : Int) - (o.length : Int) < (nr : Int)) = false := decide_eq_false (by omega)
                rw [if_neg hlong] at HST
                by_cases h0 : sy = 0
                · have g1 : decide ((sy : Int) < 16) = true := decide_eq_true (by omega)
                  have g2 : decide ((0 : Int) < (sy : Int)) = false := decide_eq_false (by omega)
                  have HVV := Lib.hid (show ∀ x wb, Lw.val last ((sy : Int), x, wb) = 0 ∧ Lw.lastOf last ((sy : Int), x, wb) = last from fun x wb => by
                    unfold Lw.val Lw.lastOf; simp only; constructor <;> (repeat' split) <;> omega)
                  rw [(HVV.out _ _).1, (HVV.out _ _).2] at HST
                  go_wp2_with fail
                  go_loopw [7, 75] (fun av cv wr2 => ∃ j : Nat, j ≤ nr ∧ cv = .int .i64 j ∧ av = .int .i64 ((o.length + j : Nat) : Int) ∧ Hid (wr2.ownsRow base 3 1 (.slice (some ⟨G, 0, none⟩) k k) k (nums .i64 (fillS k o 0 j))) ∧ Hid (Mods [G] w6 wr2)) (fun _ cv _ => nr - (intOf cv).toNat)
                  case atStart => exact ⟨0, by omega, rfl, rfl, Lib.hid (by rw [fillS_zero]; exact HO6.out), Lib.hid (Mods.refl _ _)⟩
                  case round =>
                    obtain ⟨j, hj, rfl, rfl, HOj, HMj⟩ := hrel
                    by_cases hlt : j < nr
                    · have t1 : decide ((j : Int) < (nr : Int)) = true := decide_eq_true (by omega)
                      obtain ⟨ax, hax⟩ : ∃ ax, o.length + j = ax := ⟨_, rfl⟩
                      have HAX := Lib.hid hax
                      have t2 : (ax : Int) < (k : Int) := by omega
                      obtain ⟨hc1, hf1⟩ := own_at HOj.out (ax : Int) (by omega) (by omega)
                      rw [Int.toNat_natCast] at hc1 hf1
                      rw [hax]
                      generalize rd (fillS k o 0 j) (ax : Int) = old at *
                      go_wp2_with fail
                      go_roundw
                      case rel =>
                        have hm := HMj.out.setCell (p := ⟨G, ax, none⟩) (.inl (by simp)) (.int .i64 0)
                        have ho := (own_store HOj.out (ax : Int) 0).1
                        rw [Int.toNat_natCast, ← HAX.out, fillS_next (by omega), HAX.out] at ho
                        exact ⟨j + 1, by omega, by go_num, by go_num, Lib.hid ho, Lib.hid hm⟩
                      case measure => simp [intOf]; omega
                    · obtain rfl : j = nr := by omega
                      have t1 : decide ((j : Int) < (j : Int)) = false := decide_eq_false (by omega)
                      have HNX : Hid (NormX w wr S g G base k A bs B hi w.heap.size sh os (rawF bs p k) m1 (pp + nn + wb) last (o ++ List.replicate j 0)) := Lib.hid ⟨HST.out.symm.trans HN.out.res, by simp; omega, by rw [← fillS_end]; exact HOj.out, HS6.out.mods HMj.out (by simpa using HG.out.1.symm) (by simpa using HG.out.2.1.symm) (fun ad h => by simpa using HG.out.2.2 ad h), (HT6.out.1.keep HT6.out.2 HMj.out (by simp; omega)).1, (HT6.out.1.keep HT6.out.2 HMj.out (by simp; omega)).2, HM6.out.trans (HMj.out.mono (by simp))⟩
                      go_wp2_with fail
                      go_roundw
                      case rel =>
                        exact ⟨m1, pp + nn + wb, last, o ++ List.replicate j 0, by omega, by go_num, rfl, by first | rfl | (simp; done), HNX⟩
                      case measure => simp [intOf]
                by_cases h16 : sy < 16
                · have g1 : decide ((sy : Int) < 16) = true := decide_eq_true (by omega)
                  have g2 : decide ((0 : Int) < (sy : Int)) = true := decide_eq_true (by omega)
                  have HVV := Lib.hid (show ∀ x wb, Lw.val last ((sy : Int), x, wb) = (sy : Int) ∧ Lw.lastOf last ((sy : Int), x, wb) = (sy : Int) from fun x wb => by
                    unfold Lw.val Lw.lastOf; simp only; constructor <;> (repeat' split) <;> omega)
                  rw [(HVV.out _ _).1, (HVV.out _ _).2] at HST
                  go_wp2_with fail
                  go_loopw [7, 75] (fun av cv wr2 => ∃ j : Nat, j ≤ nr ∧ cv = .int .i64 j ∧ av = .int .i64 ((o.length + j : Nat) : Int) ∧ Hid (wr2.ownsRow base 3 1 (.slice (some ⟨G, 0, none⟩) k k) k (nums .i64 (fillS k o (sy : Int) j))) ∧ Hid (Mods [G] w6 wr2)) (fun _ cv _ => nr - (intOf cv).toNat)
                  case atStart => exact ⟨0, by omega, rfl, rfl, Lib.hid (by rw [fillS_zero]; exact HO6.out), Lib.hid (Mods.refl _ _)⟩
                  case round =>
                    obtain ⟨j, hj, rfl, rfl, HOj, HMj⟩ := hrel
                    by_cases hlt : j < nr
                    · have t1 : decide ((j : Int) < (nr : Int)) = true := decide_eq_true (by omega)
                      obtain ⟨ax, hax⟩ : ∃ ax, o.length + j = ax := ⟨_, rfl⟩
                      have HAX := Lib.hid hax
                      have t2 : (ax : Int) < (k : Int) := by omega
                      obtain ⟨hc1, hf1⟩ := own_at HOj.out (ax : Int) (by omega) (by omega)
                      rw [Int.toNat_natCast] at hc1 hf1
                      rw [hax]
                      generalize rd (fillS k o (sy : Int) j) (ax : Int) = old at *
                      go_wp2_with fail
                      go_roundw
                      case rel =>
                        have hm := HMj.out.setCell (p := ⟨G, ax, none⟩) (.inl (by simp)) (.int .i64 (sy : Int))
                        have ho := (own_store HOj.out (ax : Int) (sy : Int)).1
                        rw [Int.toNat_natCast, ← HAX.out, fillS_next (by omega), HAX.out] at ho
                        exact ⟨j + 1, by omega, by go_num, by go_num, Lib.hid ho, Lib.hid hm⟩
                      case measure => simp [intOf]; omega
                    · obtain rfl : j = nr := by omega
                      have t1 : decide ((j : Int) < (j : Int)) = false := decide_eq_false (by omega)
                      have HNX : Hid (NormX w wr S g G base k A bs B hi w.heap.size sh os (rawF bs p k) m1 (pp + nn + wb) (sy : Int) (o ++ List.replicate j (sy : Int))) := Lib.hid ⟨HST.out.symm.trans HN.out.res, by simp; omega, by rw [← fillS_end]; exact HOj.out, HS6.out.mods HMj.out (by simpa using HG.out.1.symm) (by simpa using HG.out.2.1.symm) (fun ad h => by simpa using HG.out.2.2 ad h), (HT6.out.1.keep HT6.out.2 HMj.out (by simp; omega)).1, (HT6.out.1.keep HT6.out.2 HMj.out (by simp; omega)).2, HM6.out.trans (HMj.out.mono (by simp))⟩
                      go_wp2_with fail
                      go_roundw
                      case rel =>
                        exact ⟨m1, pp + nn + wb, (sy : Int), o ++ List.replicate j (sy : Int), by omega, by go_num, rfl, by first | rfl | (simp; done), HNX⟩
                      case measure => simp [intOf]
                have g1 : decide ((sy : Int) < 16) = false := decide_eq_false (by omega)
                by_cases hq : sy = 16
                · have g2 : ((sy : Int) == 16) = true := by rw [hq]; rfl
                  have HVV := Lib.hid (show ∀ x wb, Lw.val last ((sy : Int), x, wb) = last ∧ Lw.lastOf last ((sy : Int), x, wb) = last from fun x wb => by
                    unfold Lw.val Lw.lastOf; simp only; constructor <;> (repeat' split) <;> omega)
                  rw [(HVV.out _ _).1, (HVV.out _ _).2] at HST
                  go_wp2_with fail
                  go_loopw [7, 75] (fun av cv wr2 => ∃ j : Nat, j ≤ nr ∧ cv = .int .i64 j ∧ av = .int .i64 ((o.length + j : Nat) : Int) ∧ Hid (wr2.ownsRow base 3 1 (.slice (some ⟨G, 0, none⟩) k k) k (nums .i64 (fillS k o last j))) ∧ Hid (Mods [G] w6 wr2)) (fun _ cv _ => nr - (intOf cv).toNat)
                  case atStart => exact ⟨0, by omega, rfl, rfl, Lib.hid (by rw [fillS_zero]; exact HO6.out), Lib.hid (Mods.refl _ _)⟩
                  case round =>
                    obtain ⟨j, hj, rfl, rfl, HOj, HMj⟩ := hrel
                    by_cases hlt : j < nr
                    · have t1 : decide ((j : Int) < (nr : Int)) = true := decide_eq_true (by omega)
                      obtain ⟨ax, hax⟩ : ∃ ax, o.length + j = ax := ⟨_, rfl⟩
                      have HAX := Lib.hid hax
                      have t2 : (ax : Int) < (k : Int) := by omega
                      obtain ⟨hc1, hf1⟩ := own_at HOj.out (ax : Int) (by omega) (by omega)
                      rw [Int.toNat_natCast] at hc1 hf1
                      rw [hax]
                      generalize rd (fillS k o last j) (ax : Int) = old at *
                      go_wp2_with fail
                      go_roundw
                      case rel =>
                        have hm := HMj.out.setCell (p := ⟨G, ax, none⟩) (.inl (by simp)) (.int .i64 last)
                        have ho := (own_store HOj.out (ax : Int) last).1
                        rw [Int.toNat_natCast, ← HAX.out, fillS_next (by omega), HAX.out] at ho
                        exact ⟨j + 1, by omega, by go_num, by go_num, Lib.hid ho, Lib.hid hm⟩
                      case measure => simp [intOf]; omega
                    · obtain rfl : j = nr := by omega
                      have t1 : decide ((j : Int) < (j : Int)) = false := decide_eq_false (by omega)
                      have HNX : Hid (NormX w wr S g G base k A bs B hi w.heap.size sh os (rawF bs p k) m1 (pp + nn + wb) last (o ++ List.replicate j last)) := Lib.hid ⟨HST.out.symm.trans HN.out.res, by simp; omega, by rw [← fillS_end]; exact HOj.out, HS6.out.mods HMj.out (by simpa using HG.out.1.symm) (by simpa using HG.out.2.1.symm) (fun ad h => by simpa using HG.out.2.2 ad h), (HT6.out.1.keep HT6.out.2 HMj.out (by simp; omega)).1, (HT6.out.1.keep HT6.out.2 HMj.out (by simp; omega)).2, HM6.out.trans (HMj.out.mono (by simp))⟩
                      go_wp2_with fail
                      go_roundw
                      case rel =>
                        exact ⟨m1, pp + nn + wb, last, o ++ List.replicate j last, by omega, by go_num, rfl, by first | rfl | (simp; done), HNX⟩
                      case measure => simp [intOf]
                have g2 : ((sy : Int) == 16) = false := beq_eq_false_iff_ne.2 (by omega)
                have HVV := Lib.hid (show ∀ x wb, Lw.val last ((sy : Int), x, wb) = 0 ∧ Lw.lastOf last ((sy : Int), x, wb) = last from fun x wb => by
                  unfold Lw.val Lw.lastOf; simp only; constructor <;> (repeat' split) <;> omega)
                rw [(HVV.out _ _).1, (HVV.out _ _).2] at HST
                go_wp2_with fail
                go_loopw [7, 75] (fun av cv wr2 => ∃ j : Nat, j ≤ nr ∧ cv = .int .i64 j ∧ av = .int .i64 ((o.length + j : Nat) : Int) ∧ Hid (wr2.ownsRow base 3 1 (.slice (some ⟨G, 0, none⟩) k k) k (nums .i64 (fillS k o 0 j))) ∧ Hid (Mods [G] w6 wr2)) (fun _ cv _ => nr - (intOf cv).toNat)
                case atStart => exact ⟨0, by omega, rfl, rfl, Lib.hid (by rw [fillS_zero]; exact HO6.out), Lib.hid (Mods.refl _ _)⟩
                case round =>
                  obtain ⟨j, hj, rfl, rfl, HOj, HMj⟩ := hrel
                  by_cases hlt : j < nr
                  · have t1 : decide ((j : Int) < (nr : Int)) = true := decide_eq_true (by omega)
                    obtain ⟨ax, hax⟩ : ∃ ax, o.length + j = ax := ⟨_, rfl⟩
                    have HAX := Lib.hid hax
                    have t2 : (ax : Int) < (k : Int) := by omega
                    obtain ⟨hc1, hf1⟩ := own_at HOj.out (ax : Int) (by omega) (by omega)
                    rw [Int.toNat_natCast] at hc1 hf1
                    rw [hax]
                    generalize rd (fillS k o 0 j) (ax : Int) = old at *
                    go_wp2_with fail
                    go_roundw
                    case rel =>
                      have hm := HMj.out.setCell (p := ⟨G, ax, none⟩) (.inl (by simp)) (.int .i64 0)
                      have ho := (own_store HOj.out (ax : Int) 0).1
                      rw [Int.toNat_natCast, ← HAX.out, fillS_next (by omega), HAX.out] at ho
                      exact ⟨j + 1, by omega, by go_num, by go_num, Lib.hid ho, Lib.hid hm⟩
                    case measure => simp [intOf]; omega
                  · obtain rfl : j = nr := by omega
                    have t1 : decide ((j : Int) < (j : Int)) = false := decide_eq_false (by omega)
                    have HNX : Hid (NormX w wr S g G base k A bs B hi w.heap.size sh os (rawF bs p k) m1 (pp + nn + wb) last (o ++ List.replicate j 0)) := Lib.hid ⟨HST.out.symm.trans HN.out.res, by simp; omega, by rw [← fillS_end]; exact HOj.out, HS6.out.mods HMj.out (by simpa using HG.out.1.symm) (by simpa using HG.out.2.1.symm) (fun ad h => by simpa using HG.out.2.2 ad h), (HT6.out.1.keep HT6.out.2 HMj.out (by simp; omega)).1, (HT6.out.1.keep HT6.out.2 HMj.out (by simp; omega)).2, HM6.out.trans (HMj.out.mono (by simp))⟩
                    go_wp2_with fail
                    go_roundw
                    case rel =>
                      exact ⟨m1, pp + nn + wb, last, o ++ List.replicate j 0, by omega, by go_num, rfl, by first | rfl | (simp; done), HNX⟩
                    case measure => simp [intOf]
          · subst c2 c3
            obtain ⟨m1, rfl⟩ : ∃ m1, m = m1 + 1 := ⟨m - 1, by omega⟩
            have hst := stepsF_next sh bs k m1 pp last o hat
            rw [HNN.out, HSY.out, if_pos (by omega)] at hst
            have hRR : rawF bs p k = .err 2 := by rw [← HN.out.res, hst]
            have HRR := Lib.hid hRR
            have hb4 := hM4.blk HN.out.src.blk (by simpa using HN.out.src.ne)
            have HB4 := Lib.hid hb4
            have HR4 := Lib.hid hR4
            have HT4 := Lib.hid (HN.out.tree.keep HN.out.abv hM4 (by simp; omega))
            have HO4 := Lib.hid (own_mods HN.out.own hM4 (by simpa using HG.out.2.1))
            have HM4 := Lib.hid (HN.out.mods.trans (hM4.mono (R := [S, g, G]) (by simp)))
            clear hst hb4 hRR hM4 hR4 hs0 hs1
            go_wp2_with fail
            refine (fail_src S _ 2 w4 HB4.out).mono ?_
            rintro en w5 ⟨rfl, rfl⟩
            have hm5 : Mods [S] w4 (w4.setCell ⟨S, 1, none⟩ (.int .i64 2)) := (Mods.refl _ _).setCell (by simp) _
            have HS5 : Hid (Srx (w4.setCell ⟨S, 1, none⟩ (.int .i64 2)) S g A bs q 2) := Lib.hid ⟨by rw [blk_set HB4.out]; rfl, HN.out.src.ne, HN.out.src.far, _, _, HR4.out.mods hm5 (by simpa using HN.out.src.ne.symm) (fun ad h => by simpa using (HN.out.src.far ad h).1), fun h => absurd h (by decide)⟩
            have HO5 := Lib.hid (own_mods HO4.out hm5 (by simpa using HG.out.1))
            have HM5 := Lib.hid (HM4.out.trans (hm5.mono (R := [S, g, G]) (by simp)))
            generalize w4.setCell ⟨S, 1, none⟩ (.int .i64 2) = w5 at *
            clear hm5 HO4 HB4 HR4 HT4
            go_wp2_with fail
            refine (run_any S g A bs q 2 0 w5 HS5.out).mono ?_
            rintro en w6 ⟨x, p6, e6, rfl, hS6, hM6, hRun, hx0, hx1⟩
            have he6 : e6 = 2 := by
              unfold RunR at hRun
              split at hRun
              · exact hRun.2.2
              · exact (hRun.err (by decide)).2.2
            subst he6
            have HS6 := Lib.hid hS6
            have HO6 := Lib.hid (own_mods HO5.out hM6 (by have := HG.out; simp; exact ⟨this.1, this.2.1⟩))
            have HM6 := Lib.hid (HM5.out.trans (hM6.mono (R := [S, g, G]) (by simp)))
            have hs6 : w6.cell? ⟨S, 1, none⟩ = some (.int .i64 2) := by rw [cell_blk hS6.blk]; rfl
            clear hS6 hM6 hRun HO5 HM5
            go_wp2_with fail
            refine bodyPost_ret (results_none rfl _ _ _) rfl ?_
            exact ⟨rfl, padS k o, HO6.out, padS_len holen, p6, 2, HS6.out, HM6.out, HRR.out⟩
        · obtain rfl : m = 0 := by omega
          have HRR := Lib.hid (show rawF bs p k = resE 0 (padS k o) pp from by rw [← HN.out.res]; rfl)
          go_wp2_with fail
          go_end0
          exact ⟨rfl, padS k o, HN.out.own, padS_len holen, pp, 0, HN.out.src, HN.out.mods, HRR.out⟩
      · have q2 : decide (((o.length : Nat) : Int) < (k : Int)) = false := decide_eq_false (by omega)
        have HRR := Lib.hid (show rawF bs p k = resE 0 (padS k o) pp from by
          rw [← HN.out.res]
          cases m with
          | zero => rfl
          | succ m1 => unfold stepsF; rw [if_pos (by omega)]; rfl)
        go_wp2_with fail
        go_end0
        exact ⟨rfl, padS k o, HN.out.own, padS_len holen, pp, 0, HN.out.src, HN.out.mods, HRR.out⟩
  · have d2 : (e2 == 0) = false := beq_eq_false_iff_ne.2 he2
    have HRB := Lib.hid (show (e ≠ 0 → e2 = e) ∧ (e = 0 → rawF bs p k = resE e2 (zeros k) p2) from by
      constructor
      · intro he
        rcases HE1.out with ⟨_, b⟩ | ⟨a, _⟩
        · rw [most_err HN2.out (by rw [b]; exact he), b]
        · exact absurd a he
      · intro he
        rcases HE1.out with ⟨a, _⟩ | ⟨_, b⟩
        · exact absurd he a
        · unfold resE
          rw [if_neg he2]
          unfold rawF
          by_cases hh : headE bs p = 0
          · rw [hh] at b
            have hp1 := (HT1.out b).1
            subst b
            rcases most_all HN2.out hm0 with ⟨_, c, d⟩ | ⟨c, _⟩
            · rw [if_neg (fun q => q hh)]
              simp only
              rw [← hp1]
              by_cases hno : 8 * bs.length < (mostF bs k p1).1 ∨ (mostF bs k p1).2.2 = false
              · rw [if_pos hno] at c ⊢; rw [c]
              · rw [if_neg hno] at c ⊢; rw [if_pos (d hno), c]
            · exact absurd c he2
          · rw [if_pos hh, most_err HN2.out (by rw [b]; exact hh), b])
    clear HE1 HT1 HN2
    go_wp2_with fail
    go_loopw [5, 6, 7, 8, 9, 10, 11, 75] (fun mv _ av _ _ _ _ _ wr => mv = .int .i64 m' ∧ av = .int .i64 0 ∧ wr = w2) (fun _ _ _ _ _ _ _ _ _ => 0)
    case atStart => exact ⟨rfl, rfl, rfl⟩
    case round =>
      obtain ⟨rfl, rfl, rfl⟩ := hrel
      by_cases hm : 0 < m'
      · have q3 : decide ((0 : Int) < (m' : Int)) = true := decide_eq_true (by omega)
        go_wp2_with fail
        go_end0
        exact ⟨rfl, zeros k, p2, e2, HO2.out, by simp [zeros], HS2.out, HM2.out.mono (by simp), HRB.out.1, HRB.out.2⟩
      · have q3 : decide ((0 : Int) < (m' : Int)) = false := decide_eq_false (by omega)
        go_wp2_with fail
        go_end0
        exact ⟨rfl, zeros k, p2, e2, HO2.out, by simp [zeros], HS2.out, HM2.out.mono (by simp), HRB.out.1, HRB.out.2⟩
end Go.Proofs.Ytbljoihnjhllhaa
