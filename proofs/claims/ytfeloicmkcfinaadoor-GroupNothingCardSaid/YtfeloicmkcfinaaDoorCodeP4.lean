/- Plain theory of codes, fourth part: no code is the beginning of another one; the first and the last code; a code that is split. No program in sight. -/
import Derived.Test.YtfeloicmkcfinaaDoorCodeP3
namespace Go.Proofs.YtfeloicmkcfinaaDoor
open Go.RowKit
open Go.Proofs.YtfeloicmkcfinaaDoorW.PrintWords
open Srt

theorem sumTo_nought (n : Nat) : sumTo n (fun _ => 0) = 0 := by
  induction n with
  | zero => rfl
  | succ n ih => rw [sumTo_succ, ih]; rfl
theorem ahead_iff (ls : List Int) (t s : Nat) : ahead ls t s = true ↔ 0 < ln ls t ∧ (ln ls t < ln ls s ∨ ln ls t = ln ls s ∧ t < s) := by simp [ahead]
theorem two_pow_pos (n : Nat) : (0 : Int) < 2 ^ n := Int.pow_pos (by decide)
theorem code_lt {ls : List Int} (hc : checkS ls = 0) {s : Nat} (hs : s < ls.length) (hp : 0 < ln ls s) : 0 ≤ codeS ls s ∧ codeS ls s + 1 ≤ 2 ^ (ln ls s).toNat := by
  have h1 := (complete hc).1 s
  have e : ((ln ls s).toNat : Int) = ln ls s := by omega
  have h2 := upTo_small hc (ln ls s).toNat (s + 1) (by omega)
  have h3 := upTo_nonneg ls (ln ls s) s
  rw [e, upTo_hit ls (ln ls s) s hs hp rfl, upTo_code] at h2
  rw [upTo_code] at h3
  refine ⟨h3, ?_⟩
  have h4 : (32768 : Int) = 2 ^ (ln ls s).toNat * 2 ^ (15 - (ln ls s).toNat) := by
    rw [← Int.pow_add, show (ln ls s).toNat + (15 - (ln ls s).toNat) = 15 from by omega]; rfl
  rw [h4] at h2
  exact Int.le_of_mul_le_mul_right h2 (two_pow_pos _)
/-- What comes later lies behind all that begins so. -/
theorem code_apart {ls : List Int} {i k : Nat} (hi : i < ls.length) (h : ahead ls i k = true) : (codeS ls i + 1) * 2 ^ (ln ls k - ln ls i).toNat ≤ codeS ls k := by
  rw [ahead_iff] at h
  obtain ⟨h1, h2⟩ := h
  have h3 := sumTo_one (n := ls.length) (f := fun t => (if ahead ls t i then 2 ^ (ln ls i - ln ls t).toNat else 0) * 2 ^ (ln ls k - ln ls i).toNat)
    (g := fun t => if t = i then 2 ^ (ln ls k - ln ls i).toNat else (if ahead ls t i then 2 ^ (ln ls i - ln ls t).toNat else 0) * 2 ^ (ln ls k - ln ls i).toNat) i hi
    (fun t _ hne => by simp [hne])
  have h4 : ahead ls i i = false := by
    cases h : ahead ls i i with
    | false => rfl
    | true => rw [ahead_iff] at h; omega
  have h5 : codeS ls i * 2 ^ (ln ls k - ln ls i).toNat = sumTo ls.length (fun t => (if ahead ls t i then 2 ^ (ln ls i - ln ls t).toNat else 0) * 2 ^ (ln ls k - ln ls i).toNat) := by unfold codeS; rw [sumTo_mul]
  simp only [if_true, h4] at h3
  rw [← h5] at h3
  rw [Int.add_mul, Int.one_mul]
  have h6 : sumTo ls.length (fun t => if t = i then 2 ^ (ln ls k - ln ls i).toNat else (if ahead ls t i then 2 ^ (ln ls i - ln ls t).toNat else 0) * 2 ^ (ln ls k - ln ls i).toNat) ≤ codeS ls k := by
    unfold codeS
    refine sumTo_le fun t ht => ?_
    by_cases e : t = i
    · subst e
      rw [if_pos rfl, if_pos (by rw [ahead_iff]; exact ⟨h1, h2⟩)]
      exact Int.le_refl _
    · rw [if_neg e]
      by_cases ha : ahead ls t i = true
      · rw [if_pos ha]
        rw [ahead_iff] at ha
        rw [if_pos (by rw [ahead_iff]; omega), ← Int.pow_add, show (ln ls i - ln ls t).toNat + (ln ls k - ln ls i).toNat = (ln ls k - ln ls t).toNat from by omega]
        exact Int.le_refl _
      · rw [if_neg ha, Int.zero_mul]
        split
        · exact Int.le_of_lt (two_pow_pos _)
        · exact Int.le_refl _
  simp at h3
  omega
theorem code_shr {ls : List Int} {i k : Nat} (hi : i < ls.length) (hk : k < ls.length) (hne : k ≠ i) (hp : 0 < ln ls i) (hle : ln ls i ≤ ln ls k) : codeS ls k / 2 ^ (ln ls k - ln ls i).toNat ≠ codeS ls i := by
  by_cases h : ahead ls i k = true
  · have h1 := code_apart hi h
    have h2 := (Int.le_ediv_iff_mul_le (two_pow_pos (ln ls k - ln ls i).toNat)).2 h1
    omega
  · have h0 : ahead ls k i = true := by
      rw [ahead_iff]
      rw [ahead_iff] at h
      omega
    have h1 := code_apart hk h0
    have h2 : ln ls k = ln ls i := by rw [ahead_iff] at h0; omega
    rw [h2, Int.sub_self] at h1 ⊢
    simp at h1 ⊢
    omega
theorem code_top {ls : List Int} (hc : checkS ls = 0) {s : Nat} (hs : s < ls.length) (hp : 0 < ln ls s) : codeS ls s / 2 ^ (ln ls s).toNat = 0 := by
  obtain ⟨h0, h1⟩ := code_lt hc hs hp
  exact Int.ediv_eq_zero_of_lt h0 (by omega)

/-! ### The only one -/
theorem nonzero_many {ls : List Int} (h : ∀ t, 0 ≤ ln ls t) : (nonzero ls).length = many ls := by
  unfold nonzero many mnUp
  rw [List.countP_eq_length_filter]
  congr 1
  apply List.filter_congr
  intro t _
  have := h t
  by_cases e : ln ls t = 0
  · simp [e]
  · have : 0 < ln ls t := by omega
    simp [e, this]
theorem one_many {ls : List Int} (h : ∀ t, 0 ≤ ln ls t) : (oneS ls).2 = true ↔ many ls = 1 := by
  rw [← nonzero_many h]
  unfold oneS
  by_cases e : (nonzero ls).length = 1
  · rw [oneOf_one _ e]; simp [e]
  · rw [oneOf_not _ e]; simp [e]

/-! ### How many are so -/
def cnt (p : Nat → Bool) (k : Nat) : Nat := (List.range k).countP p
theorem cnt_hit (p : Nat → Bool) (k : Nat) (h : p k = true) : cnt p (k + 1) = cnt p k + 1 := by simp [cnt, List.range_succ, List.countP_append, h]
theorem cnt_miss (p : Nat → Bool) (k : Nat) (h : p k = false) : cnt p (k + 1) = cnt p k := by simp [cnt, List.range_succ, List.countP_append, h]
theorem cnt_le (p : Nat → Bool) (k : Nat) : cnt p k ≤ k := by have := List.countP_le_length (p := p) (l := List.range k); simpa [cnt] using this
theorem cnt_none (p : Nat → Bool) (k : Nat) (h : ∀ t, t < k → p t = false) : cnt p k = 0 := by
  induction k with
  | zero => rfl
  | succ k ih => rw [cnt_miss p k (h k (by omega)), ih (fun t ht => h t (by omega))]
theorem cnt_one (p : Nat → Bool) (k : Nat) (a : Nat) (ha : a < k) (h1 : p a = true) (h : ∀ t, t < k → p t = true → t = a) : cnt p k = 1 := by
  induction k with
  | zero => omega
  | succ k ih =>
    by_cases e : a = k
    · subst e
      rw [cnt_hit p a h1, cnt_none p a (fun t ht => by
        cases hp : p t with
        | false => rfl
        | true => have := h t (by omega) hp; omega)]
    · rw [cnt_miss p k (by
        cases hp : p k with
        | false => rfl
        | true => have := h k (by omega) hp; omega)]
      exact ih (by omega) (fun t ht => h t (by omega))
theorem exists_max (f : Nat → Nat) : ∀ (l : List Nat), l ≠ [] → ∃ x, x ∈ l ∧ ∀ y ∈ l, f y ≤ f x := by
  intro l
  induction l with
  | nil => intro h; exact absurd rfl h
  | cons a l ih =>
    intro _
    by_cases h : l = []
    · subst h; exact ⟨a, by simp, by simp⟩
    · obtain ⟨x, hx, hm⟩ := ih h
      by_cases hc : f a ≤ f x
      · exact ⟨x, by simp [hx], fun y hy => by rcases List.mem_cons.1 hy with rfl | h; exact hc; exact hm y h⟩
      · exact ⟨a, by simp, fun y hy => by rcases List.mem_cons.1 hy with rfl | h; exact Nat.le_refl _; have := hm y h; omega⟩
def rank (ls : List Int) (s : Nat) : Nat := (ln ls s).toNat * (ls.length + 1) + s
theorem rank_lt {ls : List Int} {s t : Nat} (hs : s < ls.length) (_ : t < ls.length) (h1 : 0 < ln ls t) (h : rank ls t < rank ls s) : ahead ls t s = true := by
  rw [ahead_iff]
  unfold rank at h
  refine ⟨h1, ?_⟩
  by_cases e : ln ls t < ln ls s
  · exact .inl e
  · by_cases e2 : ln ls t = ln ls s
    · right; rw [e2] at h; exact ⟨e2, by omega⟩
    · exfalso
      have h3 : (ln ls s).toNat + 1 ≤ (ln ls t).toNat := by omega
      have h4 := Nat.mul_le_mul_right (ls.length + 1) h3
      rw [Nat.add_mul] at h4
      omega
theorem rank_eq {ls : List Int} {s t : Nat} (hs : s < ls.length) (ht : t < ls.length) (h : rank ls t = rank ls s) : t = s := by
  unfold rank at h
  rcases Nat.lt_trichotomy (ln ls t).toNat (ln ls s).toNat with e | e | e
  · have h4 := Nat.mul_le_mul_right (ls.length + 1) (show (ln ls t).toNat + 1 ≤ (ln ls s).toNat from e)
    rw [Nat.add_mul] at h4; omega
  · rw [e] at h; omega
  · have h4 := Nat.mul_le_mul_right (ls.length + 1) (show (ln ls s).toNat + 1 ≤ (ln ls t).toNat from e)
    rw [Nat.add_mul] at h4; omega
def isLow (ls : List Int) (t : Nat) : Bool := decide (0 < ln ls t) && decide (codeS ls t = 0)
def isHigh (ls : List Int) (t : Nat) : Bool := decide (0 < ln ls t) && decide (codeS ls t = 2 ^ (ln ls t).toNat - 1)
theorem some_pos {ls : List Int} (hc : checkS ls = 0) : (List.range ls.length).filter (fun t => decide (0 < ln ls t)) ≠ [] := by
  intro h
  have h1 : many ls = 0 := by
    unfold many mnUp
    rw [List.countP_eq_length_filter, h]; rfl
  have h2 := krUp_many ls ls.length
  have h3 : mnUp ls ls.length = 0 := h1
  rcases (complete hc).2.1 with h4 | h4
  · omega
  · have h5 : kraft ls = krUp ls ls.length := rfl
    omega
theorem low_one {ls : List Int} (hc : checkS ls = 0) : cnt (isLow ls) ls.length = 1 := by
  obtain ⟨M, hM⟩ : ∃ M, ∀ t, t < ls.length → rank ls t ≤ M := by
    refine ⟨15 * (ls.length + 1) + ls.length, fun t ht => ?_⟩
    have := (complete hc).1 t
    have h4 := Nat.mul_le_mul_right (ls.length + 1) (show (ln ls t).toNat ≤ 15 by omega)
    unfold rank
    omega
  obtain ⟨a, ha, hm⟩ := exists_max (fun t => M - rank ls t) _ (some_pos hc)
  rw [List.mem_filter, List.mem_range] at ha
  simp at ha
  refine cnt_one _ _ a ha.1 ?_ ?_
  · unfold isLow
    simp only [Bool.and_eq_true, decide_eq_true_eq]
    refine ⟨ha.2, ?_⟩
    unfold codeS
    refine Eq.trans ?_ (sumTo_nought ls.length)
    refine sumTo_congr fun t ht => ?_
    rw [if_neg]
    intro h
    rw [ahead_iff] at h
    have h1 := hm t (by rw [List.mem_filter, List.mem_range]; exact ⟨ht, by simpa using h.1⟩)
    have h2 := hM t ht
    have h3 := hM a ha.1
    have h4 : rank ls t < rank ls a := by
      rcases Nat.lt_trichotomy (rank ls t) (rank ls a) with e | e | e
      · exact e
      · have := rank_eq ha.1 ht e; subst this; omega
      · have := rank_lt (s := t) (t := a) ht ha.1 ha.2 e
        rw [ahead_iff] at this; omega
    simp at h1
    omega
  · intro t ht hp
    unfold isLow at hp
    simp only [Bool.and_eq_true, decide_eq_true_eq] at hp
    rcases Nat.lt_trichotomy (rank ls t) (rank ls a) with e | e | e
    · have h1 := hm t (by rw [List.mem_filter, List.mem_range]; exact ⟨ht, by simpa using hp.1⟩)
      have h2 := hM t ht
      have h3 := hM a ha.1
      simp at h1
      omega
    · exact rank_eq ha.1 ht e
    · have h1 := code_apart ha.1 (rank_lt ht ha.1 ha.2 e)
      have h2 := (code_lt hc ha.1 ha.2).1
      have h3 := two_pow_pos (ln ls t - ln ls a).toNat
      have h4 := Int.mul_pos (show (0 : Int) < codeS ls a + 1 by omega) h3
      omega
theorem high_one {ls : List Int} (hc : checkS ls = 0) (hk : kraft ls = 32768) : cnt (isHigh ls) ls.length = 1 := by
  obtain ⟨a, ha, hm⟩ := exists_max (fun t => rank ls t) _ (some_pos hc)
  rw [List.mem_filter, List.mem_range] at ha
  simp at ha
  have hb := (complete hc).1
  refine cnt_one _ _ a ha.1 ?_ ?_
  · unfold isHigh
    simp only [Bool.and_eq_true, decide_eq_true_eq]
    refine ⟨ha.2, ?_⟩
    have e : ((ln ls a).toNat : Int) = ln ls a := by omega
    have h1 : upTo ls (ln ls a) (a + 1) * 2 ^ (15 - (ln ls a).toNat) = kraft ls := by
      unfold upTo kraft
      rw [sumTo_mul]
      refine sumTo_congr fun t ht => ?_
      unfold wgt
      by_cases hp : 0 < ln ls t
      · have h2 : rank ls t ≤ rank ls a := hm t (by rw [List.mem_filter, List.mem_range]; exact ⟨ht, by simpa using hp⟩)
        have h3 : ln ls t < ln ls a ∨ ln ls t = ln ls a ∧ t < a + 1 := by
          rcases Nat.lt_or_eq_of_le h2 with e | e
          · have := rank_lt ha.1 ht hp e
            rw [ahead_iff] at this; omega
          · have := rank_eq ha.1 ht e; subst this; right; exact ⟨rfl, by omega⟩
        have := hb a
        rw [if_pos ⟨hp, h3⟩, if_pos hp, ← Int.pow_add, show (ln ls a - ln ls t).toNat + (15 - (ln ls a).toNat) = 15 - (ln ls t).toNat from by omega]
      · rw [if_neg (fun h => hp h.1), if_neg hp, Int.zero_mul]
    rw [upTo_hit ls (ln ls a) a ha.1 ha.2 rfl, upTo_code, hk] at h1
    have h4 : (32768 : Int) = 2 ^ (ln ls a).toNat * 2 ^ (15 - (ln ls a).toNat) := by
      have := hb a
      rw [← Int.pow_add, show (ln ls a).toNat + (15 - (ln ls a).toNat) = 15 from by omega]; rfl
    rw [h4] at h1
    have h5 := Int.eq_of_mul_eq_mul_right (Int.ne_of_gt (two_pow_pos _)) h1
    omega
  · intro t ht hp
    unfold isHigh at hp
    simp only [Bool.and_eq_true, decide_eq_true_eq] at hp
    have h0 : rank ls t ≤ rank ls a := hm t (by rw [List.mem_filter, List.mem_range]; exact ⟨ht, by simpa using hp.1⟩)
    rcases Nat.lt_or_eq_of_le h0 with e | e
    · have h6 := rank_lt ha.1 ht hp.1 e
      have h1 := code_apart ht h6
      have h2 := (code_lt hc ha.1 ha.2).2
      rw [hp.2, Int.sub_add_cancel, ← Int.pow_add] at h1
      rw [ahead_iff] at h6
      rw [show (ln ls t).toNat + (ln ls a - ln ls t).toNat = (ln ls a).toNat from by omega] at h1
      omega
    · exact rank_eq ha.1 ht e
end Go.Proofs.YtfeloicmkcfinaaDoor
