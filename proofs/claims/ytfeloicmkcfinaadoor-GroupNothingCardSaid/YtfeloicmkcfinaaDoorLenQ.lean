/- Plain: which lengths bits are (lens.Read), or why none. -/
import Derived.Test.YtfeloicmkcfinaaDoorTreeP2
import Derived.Test.YtfeloicmkcfinaaDoorLenP
namespace Go.Proofs.YtfeloicmkcfinaaDoor
open Srt

theorem kraft_full {ls : List Int} (hc : checkS ls = 0) (h : (oneS ls).2 = false) : kraft ls = 32768 := by
  have h1 := one_many (ls := ls) (fun t => ((complete hc).1 t).1)
  rcases (complete hc).2.1 with h2 | h2
  · rw [h1.2 h2] at h; exact absurd h (by decide)
  · exact h2
theorem oneS_pos (ls : List Int) : 0 ≤ (oneS ls).1 := by
  unfold oneS oneOf
  split <;> simp
theorem upTo_len {ls : List Int} {s : Nat} (hs : s < ls.length) (hp : 0 < ln ls s) : codeS ls s < upTo ls (ln ls s) ls.length := by
  have h1 := upTo_eq ls (ln ls s) hp s (by omega)
  have h2 := upTo_eq ls (ln ls s) hp (s + 1) (by omega)
  have h3 := upTo_eq ls (ln ls s) hp ls.length (Nat.le_refl _)
  have h4 := eqUp_hit ls (ln ls s) s rfl
  have h5 := eqUp_mono ls (ln ls s) (show s + 1 ≤ ls.length by omega)
  have h6 := upTo_code ls s
  omega
theorem found_le {ls bs : List Int} {p n s m t : Nat} (h : Found ls bs p n s) (k : Found ls bs p m t) : m ≤ n := by
  obtain ⟨h1, h2, h3, h4, h5, h6⟩ := h
  obtain ⟨k1, k2, k3, k4, k5, k6⟩ := k
  rcases Nat.lt_or_ge n m with hlt | hge
  · exfalso
    have a := k6 n h1 hlt
    have b := upTo_len h3 (by omega)
    rw [h4] at b
    omega
  · exact hge
theorem found_unique {ls bs : List Int} {p n s m t : Nat} (h : Found ls bs p n s) (k : Found ls bs p m t) : n = m ∧ s = t := by
  have e : n = m := Nat.le_antisymm (found_le k h) (found_le h k)
  subst e
  refine ⟨rfl, ?_⟩
  obtain ⟨h1, h2, h3, h4, h5, h6⟩ := h
  obtain ⟨k1, k2, k3, k4, k5, k6⟩ := k
  have a1 := upTo_code ls s
  have a2 := upTo_code ls t
  rw [h4] at a1; rw [k4] at a2
  have b1 := upTo_eq ls n (by omega) s (by omega)
  have b2 := upTo_eq ls n (by omega) t (by omega)
  exact eqUp_inj (n := n) h4 k4 (by omega)

/-- The symbol that comes next: so many bits, and which. -/
def Sym (ls bs : List Int) (p n s : Nat) : Prop := ((oneS ls).2 = true ∧ n = 0 ∧ (oneS ls).1 = (s : Int)) ∨ ((oneS ls).2 = false ∧ Found ls bs p n s)
theorem sym_unique {ls bs : List Int} {p n s m t : Nat} (h : Sym ls bs p n s) (k : Sym ls bs p m t) : n = m ∧ s = t := by
  rcases h with ⟨a, b, c⟩ | ⟨a, b⟩ <;> rcases k with ⟨d, e, f⟩ | ⟨d, e⟩
  · exact ⟨by omega, by omega⟩
  · rw [a] at d; cases d
  · rw [a] at d; cases d
  · exact found_unique b e
theorem sym_ex {ls : List Int} (hc : checkS ls = 0) (bs : List Int) (p : Nat) : ∃ n s, Sym ls bs p n s := by
  cases h : (oneS ls).2 with
  | true =>
    obtain ⟨k, hk⟩ := Int.eq_ofNat_of_zero_le (oneS_pos ls)
    exact ⟨0, k, .inl ⟨h, rfl, hk⟩⟩
  | false =>
    obtain ⟨n, s, hf⟩ := found_ex hc (kraft_full hc h) bs p
    exact ⟨n, s, .inr ⟨h, hf⟩⟩
open Classical in
noncomputable def symN (ls bs : List Int) (p : Nat) : Nat := if h : ∃ n s, Sym ls bs p n s then h.choose else 0
open Classical in
noncomputable def symS (ls bs : List Int) (p : Nat) : Nat := if h : ∃ s, Sym ls bs p (symN ls bs p) s then h.choose else 0
theorem sym_is {ls : List Int} (hc : checkS ls = 0) (bs : List Int) (p : Nat) : Sym ls bs p (symN ls bs p) (symS ls bs p) := by
  have h := sym_ex hc bs p
  have h1 : ∃ s, Sym ls bs p (symN ls bs p) s := by unfold symN; rw [dif_pos h]; exact h.choose_spec
  unfold symS
  rw [dif_pos h1]
  exact h1.choose_spec
theorem sym_eq {ls bs : List Int} {p n s : Nat} (hc : checkS ls = 0) (h : Sym ls bs p n s) : symN ls bs p = n ∧ symS ls bs p = s := sym_unique (sym_is hc bs p) h
theorem sym_has {ls bs : List Int} {p n s : Nat} (hc : checkS ls = 0) (h : Sym ls bs p n s) : s < ls.length ∧ 0 < ln ls s ∧ n ≤ 15 := by
  rcases h with ⟨a, b, c⟩ | ⟨_, h1, h2, h3, h4, _⟩
  · obtain ⟨j, hj⟩ : ∃ j, nonzero ls = [j] := by
      have hm := (one_many (fun t => ((complete hc).1 t).1)).1 a
      have hn := nonzero_many (ls := ls) (fun t => ((complete hc).1 t).1)
      rw [hm] at hn
      exact List.length_eq_one_iff.1 hn
    have hmem : j ∈ nonzero ls := by rw [hj]; simp
    have e : (oneS ls).1 = (j : Int) := by unfold oneS; rw [hj]; rfl
    have hjs : j = s := by omega
    subst hjs
    unfold nonzero at hmem
    rw [List.mem_filter, List.mem_range] at hmem
    have := ((complete hc).1 j).1
    have h2 : ln ls j ≠ 0 := by simpa using hmem.2
    exact ⟨hmem.1, by omega, by omega⟩
  · exact ⟨h3, by omega, h2⟩

/-! ### Which lengths bits are -/
/-- An error, or lengths and where what is read ends. -/
inductive Res where
  | err (e : Int)
  | ok (l : List Int) (p : Nat)
/-- The places of the code of lengths. -/
def ord19 : List Nat := [17, 18, 0, 1, 2, 3, 4, 5, 16, 6, 7, 8, 9, 10, 11, 12, 13, 14, 15]
/-- The first k lengths of the code of lengths. -/
def shortF (bs : List Int) (p : Nat) : Nat → List Int
  | 0 => List.replicate 19 0
  | k + 1 => (shortF bs p k).set (ord19.getD k 0) (bitsVal bs (p + 3 * k) 3)
theorem shortF_length (bs : List Int) (p k : Nat) : (shortF bs p k).length = 19 := by
  induction k with
  | zero => rfl
  | succ k ih => simp [shortF, ih]
def padS (n : Nat) (out : List Int) : List Int := out ++ List.replicate (n - out.length) 0
/-- The steps, so many at most. -/
noncomputable def stepsF (sh bs : List Int) (n : Nat) : Nat → Nat → Int → List Int → Res
  | 0, p, _, out => .ok (padS n out) p
  | m + 1, p, last, out =>
    if n ≤ out.length then .ok (padS n out) p else
    let q := p + symN sh bs p
    let s : Int := symS sh bs p
    let b := (Lw.wid s).toNat
    if 8 * bs.length < q + b then .err 2 else
    let st : Lw.St := (s, bitsVal bs q b, Lw.wid s)
    if n < out.length + Lw.many st then .err 3 else
    stepsF sh bs n m (q + b) (Lw.lastOf last st) (out ++ List.replicate (Lw.many st) (Lw.val last st))
/-- How many steps there are at most: behind the code of lengths. -/
def mostF (bs : List Int) (n p : Nat) : Nat × Nat × Bool :=
  if bitAt bs p = 1 then
    let k := 2 + 2 * (bitsVal bs (p + 1) 3).toNat
    (p + 4 + k, (bitsVal bs (p + 4) k).toNat + 2, decide (p + 4 ≤ 8 * bs.length))
  else (p + 1, n, true)
noncomputable def normF (bs : List Int) (p n : Nat) : Res :=
  if 8 * bs.length < p + 4 then .err 2 else
  let k := (bitsVal bs p 4).toNat + 4
  let p1 := p + 4 + 3 * k
  if 8 * bs.length < p1 then .err 2 else
  let sh := shortF bs (p + 4) k
  if checkS sh ≠ 0 then .err 3 else
  let m := mostF bs n p1
  if 8 * bs.length < m.1 ∨ m.2.2 = false then .err 2 else
  if n < m.2.1 then .err 3 else
  match stepsF sh bs n m.2.1 m.1 8 [] with
  | .err e => .err e
  | .ok l q => if checkS l = 0 then .ok l q else .err 3
end Go.Proofs.YtfeloicmkcfinaaDoor
