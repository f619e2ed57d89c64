/- Plain: which lengths bits are (lens.Read), or why none. -/
import Derived.Test.YtbljoihnjhllhaaLensFlat19
import Derived.Test.YtbljoihnjhllhaaLensFlat1
import Derived.Test.YtbljoihnjhllhaaLensFlat5
import Derived.Test.YtbljoihnjhllhaaLensFlat4
import Derived.Test.YtbljoihnjhllhaaLensFlat9
namespace Go.Proofs.Ytbljoihnjhllhaa
open Srt

theorem kraft_full {ls : List Int} (hc : checkS ls = 0) (h : (oneS ls).2 = false) : kraft ls = 32768 := by
  have h1 := one_many (ls := ls) (fun t => ((complete hc).1 t).1)
  rcases (complete hc).2.1 with h2 | h2
  · rw [h1.2 h2] at h; exact absurd h (by decide)
  · exact h2
theorem oneS_pos (ls : List Int) : 0 ≤ (oneS ls).1 := by
  unfold oneS oneOf
  split <;> simp
theorem upTo_len {ls : List Int} {s : Nat} (hs : s < ls.length) (hp : 0 < ln ls s) : codeS ls s < upTo ls (ln ls s) ls.length := by
  have h1 := upTo_eq ls (ln ls s) hp s (by omega)
  have h2 := upTo_eq ls (ln ls s) hp (s + 1) (by omega)
  have h3 := upTo_eq ls (ln ls s) hp ls.length (Nat.le_refl _)
  have h4 := eqUp_hit ls (ln ls s) s rfl
  have h5 := eqUp_mono ls (ln ls s) (show s + 1 ≤ ls.length by omega)
  have h6 := upTo_code ls s
  omega
theorem found_le {ls bs : List Int} {p n s m t : Nat} (h : Found ls bs p n s) (k : Found ls bs p m t) : m ≤ n := by
  obtain ⟨h1, h2, h3, h4, h5, h6⟩ := h
  obtain ⟨k1, k2, k3, k4, k5, k6⟩ := k
  rcases Nat.lt_or_ge n m with hlt | hge
  · exfalso
    have a := k6 n h1 hlt
    have b := upTo_len h3 (by omega)
    rw [h4] at b
    omega
  · exact hge
theorem found_unique {ls bs : List Int} {p n s m t : Nat} (h : Found ls bs p n s) (k : Found ls bs p m t) : n = m ∧ s = t := by
  have e : n = m := Nat.le_antisymm (found_le k h) (found_le h k)
  subst e
  refine ⟨rfl, ?_⟩
  obtain ⟨h1, h2, h3, h4, h5, h6⟩ := h
  obtain ⟨k1, k2, k3, k4, k5, k6⟩ := k
  have a1 := upTo_code ls s
  have a2 := upTo_code ls t
  rw [h4] at a1; rw [k4] at a2
  have b1 := upTo_eq ls n (by omega) s (by omega)
  have b2 := upTo_eq ls n (by omega) t (by omega)
  exact eqUp_inj (n := n) h4 k4 (by omega)

/-- The symbol that comes next: so many bits, and which. -/
def Sym (ls bs : List Int) (p n s : Nat) : Prop := ((oneS ls).2 = true ∧ n = 0 ∧ (oneS ls).1 = (s : Int)) ∨ ((oneS ls).2 = false ∧ Found ls bs p n s)
theorem sym_unique {ls bs : List Int} {p n s m t : Nat} (h : Sym ls bs p n s) (k : Sym ls bs p m t) : n = m ∧ s = t := by
  rcases h with ⟨a, b, c⟩ | ⟨a, b⟩ <;> rcases k with ⟨d, e, f⟩ | ⟨d, e⟩
  · exact ⟨by omega, by omega⟩
  · rw [a] at d; cases d
  · rw [a] at d; cases d
  · exact found_unique b e
theorem sym_ex {ls : List Int} (hc : checkS ls = 0) (bs : List Int) (p : Nat) : ∃ n s, Sym ls bs p n s := by
  cases h : (oneS ls).2 with
  | true =>
    obtain ⟨k, hk⟩ := Int.eq_ofNat_of_zero_le (oneS_pos ls)
    exact ⟨0, k, .inl ⟨h, rfl, hk⟩⟩
  | false =>
    obtain ⟨n, s, hf⟩ := found_ex hc (kraft_full hc h) bs p
    exact ⟨n, s, .inr ⟨h, hf⟩⟩
open Classical in
noncomputable def symN (ls bs : List Int) (p : Nat) : Nat := if h : ∃ n s, Sym ls bs p n s then h.choose else 0
open Classical in
noncomputable def symS (ls bs : List Int) (p : Nat) : Nat := if h : ∃ s, Sym ls bs p (symN ls bs p) s then h.choose else 0
theorem sym_is {ls : List Int} (hc : checkS ls = 0) (bs : List Int) (p : Nat) : Sym ls bs p (symN ls bs p) (symS ls bs p) := by
  have h := sym_ex hc bs p
  have h1 : ∃ s, Sym ls bs p (symN ls bs p) s := by unfold symN; rw [dif_pos h]; exact h.choose_spec
  unfold symS
  rw [dif_pos h1]
  exact h1.choose_spec
theorem sym_eq {ls bs : List Int} {p n s : Nat} (hc : checkS ls = 0) (h : Sym ls bs p n s) : symN ls bs p = n ∧ symS ls bs p = s := sym_unique (sym_is hc bs p) h
theorem sym_has {ls bs : List Int} {p n s : Nat} (hc : checkS ls = 0) (h : Sym ls bs p n s) : s < ls.length ∧ 0 < ln ls s ∧ n ≤ 15 := by
  rcases h with ⟨a, b, c⟩ | ⟨_, h1, h2, h3, h4, _⟩
  · obtain ⟨j, hj⟩ : ∃ j, nonzero ls = [j] := by
      have hm := (one_many (fun t => ((complete hc).1 t).1)).1 a
      have hn := nonzero_many (ls := ls) (fun t => ((complete hc).1 t).1)
      rw [hm] at hn
      exact List.length_eq_one_iff.1 hn
    have hmem : j ∈ nonzero ls := by rw [hj]; simp
    have e : (oneS ls).1 = (j : Int) := by unfold oneS; rw [hj]; rfl
    have hjs : j = s := by omega
    subst hjs
    unfold nonzero at hmem
    rw [List.mem_filter, List.mem_range] at hmem
    have := ((complete hc).1 j).1
    have h2 : ln ls j ≠ 0 := by simpa using hmem.2
    exact ⟨hmem.1, by omega, by omega⟩
  · exact ⟨h3, by omega, h2⟩

/-! ### Which lengths bits are -/
/-- An error, or lengths and where what is read ends. -/
inductive Res where
  | err (e : Int)
  | ok (l : List Int) (p : Nat)
/-- The places of the code of lengths. -/
def ord19 : List Nat := [17, 18, 0, 1, 2, 3, 4, 5, 16, 6, 7, 8, 9, 10, 11, 12, 13, 14, 15]
/-- The first k lengths of the code of lengths. -/
def shortF (bs : List Int) (p : Nat) : Nat → List Int
  | 0 => List.replicate 19 0
  | k + 1 => (shortF bs p k).set (ord19.getD k 0) (bitsVal bs (p + 3 * k) 3)
theorem shortF_length (bs : List Int) (p k : Nat) : (shortF bs p k).length = 19 := by
  induction k with
  | zero => rfl
  | succ k ih => simp [shortF, ih]
def padS (n : Nat) (out : List Int) : List Int := out ++ List.replicate (n - out.length) 0
/-- The steps, so many at most. -/
noncomputable def stepsF (sh bs : List Int) (n : Nat) : Nat → Nat → Int → List Int → Res
  | 0, p, _, out => .ok (padS n out) p
  | m + 1, p, last, out =>
    if n ≤ out.length then .ok (padS n out) p else
    let q := p + symN sh bs p
    let s : Int := symS sh bs p
    let b := (Lw.wid s).toNat
    if 8 * bs.length < q + b then .err 2 else
    let st : Lw.St := (s, bitsVal bs q b, Lw.wid s)
    if n < out.length + Lw.many st then .err 3 else
    stepsF sh bs n m (q + b) (Lw.lastOf last st) (out ++ List.replicate (Lw.many st) (Lw.val last st))
/-- How many steps there are at most: behind the code of lengths. -/
def mostF (bs : List Int) (n p : Nat) : Nat × Nat × Bool :=
  if bitAt bs p = 1 then
    let k := 2 + 2 * (bitsVal bs (p + 1) 3).toNat
    (p + 4 + k, (bitsVal bs (p + 4) k).toNat + 2, decide (p + 4 ≤ 8 * bs.length))
  else (p + 1, n, true)
noncomputable def normF (bs : List Int) (p n : Nat) : Res :=
  if 8 * bs.length < p + 4 then .err 2 else
  let k := (bitsVal bs p 4).toNat + 4
  let p1 := p + 4 + 3 * k
  if 8 * bs.length < p1 then .err 2 else
  let sh := shortF bs (p + 4) k
  if checkS sh ≠ 0 then .err 3 else
  let m := mostF bs n p1
  if 8 * bs.length < m.1 ∨ m.2.2 = false then .err 2 else
  if n < m.2.1 then .err 3 else
  match stepsF sh bs n m.2.1 m.1 8 [] with
  | .err e => .err e
  | .ok l q => if checkS l = 0 then .ok l q else .err 3
end Go.Proofs.Ytbljoihnjhllhaa

/- lens.(*source): num, fail, of any bits and behind an error. -/
namespace Go.Proofs.Ytbljoihnjhllhaa
open Go.RowKit
open Go.Proofs.YtbljoihnjhllhaaW.PrintWords
open Srt

/-- Block S is a source over the Reader g, with an error; without one, p is what is read. -/
structure Srx (w : World) (S g : Nat) (A : Option Addr) (bs : List Int) (p : Nat) (e : Int) : Prop where
  blk : w.heap[S]? = some (.cells #[.pointer (some ⟨g, 0, none⟩), .int .i64 e] 61 (0, 0))
  ne : S ≠ g
  far : ∀ ad, A = some ad → ad.block ≠ S ∧ ad.block ≠ g
  rdr : ∃ q o, Rdr w g A bs q o ∧ (e = 0 → q = p ∧ o = false)
theorem Srx.mods {T : List Nat} {w w' : World} {S g : Nat} {A : Option Addr} {bs : List Int} {p : Nat} {e : Int} (h : Srx w S g A bs p e) (hm : Mods T w w') (hS : S ∉ T) (hg : g ∉ T) (hA : ∀ ad, A = some ad → ad.block ∉ T) : Srx w' S g A bs p e :=
  ⟨hm.blk h.blk hS, h.ne, h.far, by obtain ⟨q, o, hr, h0⟩ := h.rdr; exact ⟨q, o, hr.mods hm hg hA, h0⟩⟩
/-- A number that is read: k bits behind place p. -/
def NumR (bs : List Int) (p : Nat) (e : Int) (k : Nat) (v : Int) (p' : Nat) (e' : Int) : Prop :=
  (e ≠ 0 ∧ v = 0 ∧ p' = p ∧ e' = e) ∨ (e = 0 ∧ 8 * bs.length < p + k ∧ v = 0 ∧ p' = p ∧ e' = 2) ∨ (e = 0 ∧ p + k ≤ 8 * bs.length ∧ v = bitsVal bs p k ∧ p' = p + k ∧ e' = 0)
theorem NumR.bounds {bs : List Int} {p : Nat} {e : Int} {k : Nat} {v : Int} {p' : Nat} {e' : Int} (h : NumR bs p e k v p' e') : 0 ≤ v ∧ v < 2 ^ k := by
  have hp : (0 : Int) < 2 ^ k := by exact_mod_cast Nat.two_pow_pos k
  rcases h with ⟨_, rfl, _⟩ | ⟨_, _, rfl, _⟩ | ⟨_, _, rfl, _⟩
  · exact ⟨Int.le_refl _, hp⟩
  · exact ⟨Int.le_refl _, hp⟩
  · exact ⟨bitsVal_nonneg _ _ _, bitsVal_lt _ _ _⟩

set_option maxHeartbeats 1000000 in
theorem num_any (S g : Nat) (A : Option Addr) (bs : List Int) (p : Nat) (e : Int) (k : Nat) (w : World) (h : Srx w S g A bs p e) (hk : 0 < k) (hk2 : k ≤ 32) :
    Calls Try.prog 29 #[.pointer (some ⟨S, 0, none⟩), .int .i64 k] w fun en w' => ∃ v p' e', en = .returned (.int .i64 v) ∧ Srx w' S g A bs p' e' ∧ Mods [S, g] w w' ∧ NumR bs p e k v p' e' ∧ 0 ≤ v ∧ v < 2 ^ k := by
  have hc0 : w.cell? ⟨S, 0, none⟩ = some (.pointer (some ⟨g, 0, none⟩)) := by rw [cell_blk h.blk]; rfl
  have hc1 : w.cell? ⟨S, 1, none⟩ = some (.int .i64 e) := by rw [cell_blk h.blk]; rfl
  have H := Lib.hid h
  obtain ⟨q, o, hr, h0⟩ := h.rdr
  have HRD := Lib.hid hr
  clear h
  have hk32 : (2 : Int) ^ k ≤ 2 ^ 32 := by exact_mod_cast Nat.pow_le_pow_right (by decide) hk2
  by_cases he : e = 0
  · obtain ⟨rfl, rfl⟩ := h0 he
    subst he
    by_cases hp : q + k ≤ 8 * bs.length
    · have hv2 : 0 ≤ bitsVal bs q k ∧ bitsVal bs q k < 2 ^ k := ⟨bitsVal_nonneg _ _ _, bitsVal_lt _ _ _⟩
      obtain ⟨v, hv⟩ : ∃ v, bitsVal bs q k = v := ⟨_, rfl⟩
      rw [hv] at hv2
      have HB := Lib.hid (bits_to v g A bs q k w hv hp hk hk2 hr)
      have HV := Lib.hid hv
      clear hr hv h0
      go_enter Try.func29, Try.ntmps29
      go_wp2_with fail
      refine HB.out.mono ?_
      rintro e w1 ⟨rfl, hR, hM⟩
      have hb1 := hM.blk H.out.blk (by simpa using H.out.ne)
      have hd1 : w1.cell? ⟨S, 1, none⟩ = some (.int .i64 0) := by rw [cell_blk hb1]; rfl
      have hf1 := free_blk hb1 1
      have HM := Lib.hid hM; have HR := Lib.hid hR; have HB1 := Lib.hid hb1
      clear hM hR hb1 hc0 hc1
      go_wp2_with fail
      go_ret
      have hM2 : Mods [S] w1 (w1.setCell ⟨S, 1, none⟩ (.int .i64 0)) := (Mods.refl _ _).setCell (by simp) _
      exact ⟨v, q + k, 0, rfl, ⟨by rw [blk_set HB1.out]; rfl, H.out.ne, H.out.far, q + k, false, HR.out.mods hM2 (by simpa using H.out.ne.symm) (fun ad h => by simpa using (H.out.far ad h).1), fun _ => ⟨rfl, rfl⟩⟩, (HM.out.mono (by simp)).trans (hM2.mono (by simp)), .inr (.inr ⟨rfl, hp, HV.out.symm, rfl, rfl⟩), hv2.1, hv2.2⟩
    · have HB := Lib.hid (bits_out g A bs q false k w (.inr (by omega)) hk hk2 hr)
      clear hr h0
      go_enter Try.func29, Try.ntmps29
      go_wp2_with fail
      refine HB.out.mono ?_
      rintro e w1 ⟨rfl, hR, hM⟩
      have hb1 := hM.blk H.out.blk (by simpa using H.out.ne)
      have hd1 : w1.cell? ⟨S, 1, none⟩ = some (.int .i64 0) := by rw [cell_blk hb1]; rfl
      have hf1 := free_blk hb1 1
      have HM := Lib.hid hM; have HR := Lib.hid hR; have HB1 := Lib.hid hb1
      clear hM hR hb1 hc0 hc1
      go_wp2_with fail
      go_ret
      have hM2 : Mods [S] w1 (w1.setCell ⟨S, 1, none⟩ (.int .i64 2)) := (Mods.refl _ _).setCell (by simp) _
      exact ⟨0, q, 2, rfl, ⟨by rw [blk_set HB1.out]; rfl, H.out.ne, H.out.far, q, true, HR.out.mods hM2 (by simpa using H.out.ne.symm) (fun ad h => by simpa using (H.out.far ad h).1), fun h => by cases h⟩, (HM.out.mono (by simp)).trans (hM2.mono (by simp)), .inr (.inl ⟨rfl, by omega, rfl, rfl, rfl⟩), Int.le_refl _, pow_pos_int k⟩
  · have hne : (e != 0) = true := bne_iff_ne.2 he
    clear hr h0
    go_enter Try.func29, Try.ntmps29
    go_wp2_with fail
    go_ret
    exact ⟨0, p, e, rfl, H.out, Mods.refl _ _, .inl ⟨he, rfl, rfl, rfl⟩, Int.le_refl _, pow_pos_int k⟩
set_option maxHeartbeats 1000000 in
theorem fail_any (S g : Nat) (A : Option Addr) (bs : List Int) (p : Nat) (e x : Int) (w : World) (h : Srx w S g A bs p e) :
    Calls Try.prog 41 #[.pointer (some ⟨S, 0, none⟩), .int .i64 x] w fun en w' => en = .returned (.tuple #[]) ∧ Srx w' S g A bs p (if e = 0 then x else e) ∧ Mods [S] w w' := by
  have hc1 : w.cell? ⟨S, 1, none⟩ = some (.int .i64 e) := by rw [cell_blk h.blk]; rfl
  have hf1 := free_blk h.blk 1
  have H := Lib.hid h
  clear h
  by_cases he : e = 0
  · subst he
    go_enter Try.func41, Try.ntmps41
    go_wp2_with fail
    go_end0
    have hM2 : Mods [S] w (w.setCell ⟨S, 1, none⟩ (.int .i64 x)) := (Mods.refl _ _).setCell (by simp) _
    obtain ⟨q, o, hr, h0⟩ := H.out.rdr
    exact ⟨rfl, ⟨by rw [blk_set H.out.blk]; rfl, H.out.ne, H.out.far, q, o, hr.mods hM2 (by simpa using H.out.ne.symm) (fun ad h => by simpa using (H.out.far ad h).1), fun _ => h0 rfl⟩, hM2⟩
  · have hne : (e == 0) = false := beq_eq_false_iff_ne.2 he
    rw [if_neg he]
    go_enter Try.func41, Try.ntmps41
    go_wp2_with fail
    go_end0
    exact ⟨rfl, H.out, Mods.refl _ _⟩
end Go.Proofs.Ytbljoihnjhllhaa

/- Plain: one symbol or two, told by hand. -/
namespace Go.Proofs.Ytbljoihnjhllhaa
open Srt

/-- Behind the first bit, that is 1. -/
def simpleF (bs : List Int) (p k : Nat) : Res :=
  let wd := if bitAt bs (p + 1) = 1 then 8 else 1
  let t := p + 2 + wd + (if bitAt bs p = 1 then 8 else 0)
  if 8 * bs.length < t then .err 2 else
  let l := twoS (decide (bitAt bs p = 1)) (bitsVal bs (p + 2) wd) (bitsVal bs (p + 2 + wd) 8)
  if (layS (zeros k) l).2 then .ok (layS (zeros k) l).1 t else .err 3
def resE (e : Int) (l : List Int) (p : Nat) : Res := if e = 0 then .ok l p else .err e
theorem bitAt_end {bs : List Int} {p : Nat} (h : 8 * bs.length ≤ p) : bitAt bs p = 0 := by
  unfold bitAt; rw [List.getElem?_eq_none (by omega)]
  show (0 : Int) / 2 ^ (p % 8) % 2 = 0
  simp
/-- The numbers that are read: one or two. -/
structure SimN (bs : List Int) (p : Nat) (v1 v2 v3 v4 : Int) (wd p' : Nat) (e' : Int) : Prop where
  ex : ∃ (p1 p2 p3 : Nat) (e1 e2 e3 : Int), NumR bs p 0 1 v1 p1 e1 ∧ NumR bs p1 e1 1 v2 p2 e2 ∧ NumR bs p2 e2 wd v3 p3 e3 ∧ ((v1 = 1 ∧ NumR bs p3 e3 8 v4 p' e') ∨ (v1 ≠ 1 ∧ p' = p3 ∧ e' = e3))
  w : wd = if v2 = 1 then 8 else 1
theorem NumR.err {bs : List Int} {p k p' : Nat} {e v e' : Int} (h : NumR bs p e k v p' e') (he : e ≠ 0) : v = 0 ∧ p' = p ∧ e' = e := by
  rcases h with ⟨_, a, b, c⟩ | ⟨a, _⟩ | ⟨a, _⟩
  · exact ⟨a, b, c⟩
  · exact absurd a he
  · exact absurd a he
theorem NumR.fine {bs : List Int} {p k p' : Nat} {v e' : Int} (h : NumR bs p 0 k v p' e') : (8 * bs.length < p + k ∧ v = 0 ∧ p' = p ∧ e' = 2) ∨ (p + k ≤ 8 * bs.length ∧ v = bitsVal bs p k ∧ p' = p + k ∧ e' = 0) := by
  rcases h with ⟨a, _⟩ | ⟨_, a, b, c, d⟩ | ⟨_, a, b, c, d⟩
  · exact absurd rfl a
  · exact .inl ⟨a, b, c, d⟩
  · exact .inr ⟨a, b, c, d⟩
/-- What a chain of numbers comes to: all of them are there, or one is not. -/
theorem SimN.all {bs : List Int} {p : Nat} {v1 v2 v3 v4 : Int} {wd p' : Nat} {e' : Int} (h : SimN bs p v1 v2 v3 v4 wd p' e') :
    (e' = 2 ∧ 8 * bs.length < p + 2 + (if bitAt bs (p + 1) = 1 then 8 else 1) + (if bitAt bs p = 1 then 8 else 0)) ∨
    (e' = 0 ∧ wd = (if bitAt bs (p + 1) = 1 then 8 else 1) ∧ p' = p + 2 + wd + (if bitAt bs p = 1 then 8 else 0) ∧ p' ≤ 8 * bs.length ∧ v1 = bitAt bs p ∧ v3 = bitsVal bs (p + 2) wd ∧ (v1 = 1 → v4 = bitsVal bs (p + 2 + wd) 8)) := by
  obtain ⟨⟨p1, p2, p3, e1, e2, e3, h1, h2, h3, h4⟩, hw⟩ := h
  have b0 := bitAt_bounds bs p; have b1 := bitAt_bounds bs (p + 1)
  rcases h1.fine with ⟨a1, a2, a3, a4⟩ | ⟨a1, a2, a3, a4⟩
  · -- the first is not there
    subst a2 a3 a4
    obtain ⟨c1, c2, c3⟩ := h2.err (by decide)
    subst c1 c2 c3
    obtain ⟨d1, d2, d3⟩ := h3.err (by decide)
    subst d1 d2 d3
    rcases h4 with ⟨q, _⟩ | ⟨_, q1, q2⟩
    · exact absurd q (by decide)
    · exact .inl ⟨q2, by split <;> split <;> omega⟩
  · subst a3 a4
    rw [bitsVal_one] at a2
    rcases h2.fine with ⟨c1, c2, c3, c4⟩ | ⟨c1, c2, c3, c4⟩
    · subst c2 c3 c4
      obtain ⟨d1, d2, d3⟩ := h3.err (by decide)
      subst d1 d2 d3
      rcases h4 with ⟨q, q4⟩ | ⟨_, q1, q2⟩
      · obtain ⟨_, _, r3⟩ := q4.err (by decide)
        exact .inl ⟨r3, by split <;> split <;> omega⟩
      · exact .inl ⟨q2, by split <;> split <;> omega⟩
    · subst c3 c4
      rw [bitsVal_one] at c2
      rw [c2] at hw
      rcases h3.fine with ⟨d1, d2, d3, d4⟩ | ⟨d1, d2, d3, d4⟩
      · subst d2 d3 d4
        rw [hw] at d1
        rcases h4 with ⟨q, q4⟩ | ⟨_, q1, q2⟩
        · obtain ⟨_, _, r3⟩ := q4.err (by decide)
          exact .inl ⟨r3, by omega⟩
        · exact .inl ⟨q2, by omega⟩
      · subst d3 d4
        rcases h4 with ⟨q, q4⟩ | ⟨q, q1, q2⟩
        · rw [a2] at q
          rcases q4.fine with ⟨r1, r2, r3, r4⟩ | ⟨r1, r2, r3, r4⟩
          · exact .inl ⟨r4, by rw [if_pos q]; omega⟩
          · exact .inr ⟨r4, hw, by rw [if_pos q]; omega, by omega, a2, by rw [d2], fun _ => by rw [r2]⟩
        · rw [a2] at q
          exact .inr ⟨q2, hw, by rw [if_neg q]; omega, by omega, a2, by rw [d2], fun h => absurd (a2 ▸ h) q⟩
theorem SimN.bad {bs : List Int} {p : Nat} {v1 v2 v3 v4 : Int} {wd p' : Nat} {e' : Int} (h : SimN bs p v1 v2 v3 v4 wd p' e') (k : Nat) (he : e' ≠ 0) : e' = 2 ∧ simpleF bs p k = .err 2 := by
  rcases h.all with ⟨a, b⟩ | ⟨a, _⟩
  · exact ⟨a, by unfold simpleF; simp only; rw [if_pos b]⟩
  · exact absurd a he
theorem SimN.good {bs : List Int} {p : Nat} {v1 v2 v3 v4 : Int} {wd p' : Nat} {e' : Int} (h : SimN bs p v1 v2 v3 v4 wd p' e') (k : Nat) (he : e' = 0) :
    simpleF bs p k = if (layS (zeros k) (twoS (decide (v1 = 1)) v3 v4)).2 then .ok (layS (zeros k) (twoS (decide (v1 = 1)) v3 v4)).1 p' else .err 3 := by
  rcases h.all with ⟨a, _⟩ | ⟨_, a1, a2, a3, a4, a5, a6⟩
  · rw [he] at a; exact absurd a (by decide)
  · unfold simpleF
    simp only
    rw [← a1, ← a2, if_neg (by omega), ← a4, ← a5]
    by_cases hv : v1 = 1
    · rw [← a6 hv]
    · rw [decide_eq_false hv]; rfl
end Go.Proofs.Ytbljoihnjhllhaa
