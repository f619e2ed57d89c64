/- Plain theory of trees: which symbol bits are. No program in sight. -/
import Derived.Test.YtfeloicmkcfinaaDoorCodeP4
import Derived.Test.YtfeloicmkcfinaaDoorBitsP
namespace Go.Proofs.YtfeloicmkcfinaaDoor
open Go.RowKit
open Go.Proofs.YtfeloicmkcfinaaDoorW.PrintWords
open Srt

/-- How many symbols below i have n bits. -/
def eqUp (ls : List Int) (n : Int) (i : Nat) : Nat := cnt (fun t => decide (ln ls t = n)) i
theorem eqUp_hit (ls : List Int) (n : Int) (i : Nat) (h : ln ls i = n) : eqUp ls n (i + 1) = eqUp ls n i + 1 := cnt_hit _ _ (by simp [h])
theorem eqUp_miss (ls : List Int) (n : Int) (i : Nat) (h : ln ls i ≠ n) : eqUp ls n (i + 1) = eqUp ls n i := cnt_miss _ _ (by simp [h])
theorem eqUp_le (ls : List Int) (n : Int) (i : Nat) : eqUp ls n i ≤ i := cnt_le _ _
theorem eqUp_mono (ls : List Int) (n : Int) {i j : Nat} (h : i ≤ j) : eqUp ls n i ≤ eqUp ls n j := by
  induction j with
  | zero => rw [show i = 0 by omega]; exact Nat.le_refl _
  | succ j ih =>
    by_cases e : i = j + 1
    · rw [e]; exact Nat.le_refl _
    · have := ih (by omega)
      by_cases h : ln ls j = n
      · rw [eqUp_hit ls n j h]; omega
      · rw [eqUp_miss ls n j h]; omega
theorem upTo_eq (ls : List Int) (n : Int) (hn : 0 < n) : ∀ i, i ≤ ls.length → upTo ls n i = upTo ls n 0 + eqUp ls n i := by
  intro i
  induction i with
  | zero => intro _; simp [eqUp, cnt]
  | succ i ih =>
    intro hi
    have := ih (by omega)
    by_cases h : ln ls i = n
    · rw [upTo_hit ls n i (by omega) hn h, eqUp_hit ls n i h, this]; omega
    · rw [upTo_miss ls n i h, eqUp_miss ls n i h, this]
theorem eqUp_find (ls : List Int) (n : Int) (c : Nat) : ∀ i, c < eqUp ls n i → ∃ s, s < i ∧ ln ls s = n ∧ eqUp ls n s = c := by
  intro i
  induction i with
  | zero => intro h; simp [eqUp, cnt] at h
  | succ i ih =>
    intro h
    by_cases e : ln ls i = n
    · rw [eqUp_hit ls n i e] at h
      by_cases h2 : c < eqUp ls n i
      · obtain ⟨s, h3, h4⟩ := ih h2
        exact ⟨s, by omega, h4⟩
      · exact ⟨i, by omega, e, by omega⟩
    · rw [eqUp_miss ls n i e] at h
      obtain ⟨s, h3, h4⟩ := ih h
      exact ⟨s, by omega, h4⟩
theorem eqUp_inj {ls : List Int} {n : Int} {s t : Nat} (hs : ln ls s = n) (ht : ln ls t = n) (h : eqUp ls n s = eqUp ls n t) : s = t := by
  rcases Nat.lt_trichotomy s t with e | e | e
  · have h1 := eqUp_mono ls n (show s + 1 ≤ t from e)
    rw [eqUp_hit ls n s hs] at h1; omega
  · exact e
  · have h1 := eqUp_mono ls n (show t + 1 ≤ s from e)
    rw [eqUp_hit ls n t ht] at h1; omega

/-- How many symbols have fewer than n bits, and some. -/
def fewer (ls : List Int) (n : Int) : Nat := cnt (fun t => decide (0 < ln ls t) && decide (ln ls t < n)) ls.length
theorem cnt_add (p q r : Nat → Bool) (k : Nat) (h : ∀ t, t < k → (r t).toNat = (p t).toNat + (q t).toNat) : cnt r k = cnt p k + cnt q k := by
  induction k with
  | zero => simp [cnt]
  | succ k ih =>
    have h1 := ih (fun t ht => h t (by omega))
    have h2 := h k (by omega)
    have e : ∀ p : Nat → Bool, cnt p (k + 1) = cnt p k + (p k).toNat := fun p => by
      cases hp : p k with
      | true => rw [cnt_hit p k hp]; rfl
      | false => rw [cnt_miss p k hp]; rfl
    rw [e, e, e]; omega
theorem fewer_one (ls : List Int) : fewer ls 1 = 0 := cnt_none _ _ (fun t _ => by simp; omega)
theorem fewer_next (ls : List Int) (n : Int) (hn : 0 < n) : fewer ls (n + 1) = fewer ls n + eqUp ls n ls.length := by
  unfold fewer eqUp
  refine cnt_add _ _ _ _ (fun t _ => ?_)
  by_cases h1 : 0 < ln ls t
  · by_cases h2 : ln ls t < n
    · simp [h1, h2, show ln ls t < n + 1 by omega, show ¬ ln ls t = n by omega]
    · by_cases h3 : ln ls t = n
      · simp [h3, hn]
        omega
      · simp [h1, h2, h3, show ¬ ln ls t < n + 1 by omega]
  · simp [h1, show ¬ ln ls t = n by omega]
theorem fewer_le (ls : List Int) (n : Int) : fewer ls n ≤ ls.length := cnt_le _ _

/-- Where a symbol stands in order. -/
theorem order_at {ls os : List Int} (h : InOrder ls os) {s : Nat} (hs : s < ls.length) (hp : 0 < ln ls s) : fewer ls (ln ls s) + eqUp ls (ln ls s) s < os.length ∧ rd os ((fewer ls (ln ls s) + eqUp ls (ln ls s) s : Nat) : Int) = s := by
  have hm : (s : Int) ∈ os := (h.2.mem _).1 (posUp_of hs hp)
  obtain ⟨pre, post, rfl⟩ := List.append_of_mem hm
  have hl := h.lex
  rw [List.pairwise_append, List.pairwise_cons] at hl
  obtain ⟨_, ⟨h2, _⟩, h3⟩ := hl
  have a1 : pre.filter (fun x => ahead ls x.toNat s) = pre := by
    rw [List.filter_eq_self]
    intro x hx
    have hm := h.mem (x := x) (by simp [hx])
    have := h3 x hx s (by simp)
    unfold keyL at this
    simp only [ahead, Bool.and_eq_true, Bool.or_eq_true, decide_eq_true_eq]
    simp only [Int.toNat_natCast] at this
    omega
  have a2 : ((s : Int) :: post).filter (fun x => ahead ls x.toNat s) = [] := by
    rw [List.filter_eq_nil_iff]
    intro x hx hc
    simp only [ahead, Bool.and_eq_true, Bool.or_eq_true, decide_eq_true_eq] at hc
    rcases List.mem_cons.1 hx with e | e
    · subst e; simp at hc
    · have := h2 x e
      have hm := h.mem (x := x) (by simp [e])
      unfold keyL at this
      simp only [Int.toNat_natCast] at this
      omega
  have e1 : (pre ++ (s : Int) :: post).filter (fun x => ahead ls x.toNat s) = pre := by rw [List.filter_append, a1, a2, List.append_nil]
  have e2 : ((posList ls).filter (fun x => ahead ls x.toNat s)).length = fewer ls (ln ls s) + eqUp ls (ln ls s) s := by
    unfold posList posUp
    rw [List.filter_map, List.length_map, List.filter_filter, ← List.countP_eq_length_filter]
    have e3 : eqUp ls (ln ls s) s = cnt (fun t => decide (ln ls t = ln ls s) && decide (t < s)) ls.length := by
      unfold eqUp
      have : ∀ k, k ≤ ls.length → cnt (fun t => decide (ln ls t = ln ls s) && decide (t < s)) k = cnt (fun t => decide (ln ls t = ln ls s)) (min k s) := by
        intro k
        induction k with
        | zero => intro _; simp [cnt]
        | succ k ih =>
          intro hk
          have := ih (by omega)
          by_cases e : k < s
          · rw [show min (k + 1) s = min k s + 1 from by omega]
            have e4 : min k s = k := by omega
            by_cases e5 : ln ls k = ln ls s
            · rw [cnt_hit _ _ (by simp [e, e5]), this, e4, cnt_hit _ _ (by simp [e5])]
            · rw [cnt_miss _ _ (by simp [e5]), this, e4, cnt_miss _ _ (by simp [e5])]
          · rw [show min (k + 1) s = min k s from by omega, cnt_miss _ _ (by simp [e]), this]
      rw [this _ (Nat.le_refl _), show min ls.length s = s from by omega]
    rw [e3]
    refine cnt_add _ _ _ _ (fun t _ => ?_)
    simp only [Function.comp, Int.ofNat_eq_natCast, Int.toNat_natCast]
    unfold ahead
    by_cases b1 : 0 < ln ls t
    · by_cases b2 : ln ls t < ln ls s
      · simp [b1, b2, show ¬ ln ls t = ln ls s by omega]
      · by_cases b3 : ln ls t = ln ls s
        · by_cases b4 : t < s
          · simp [b3, b4, hp]
          · simp [b3, b4]
        · simp [b2, b3]
    · simp [b1, show ¬ ln ls t = ln ls s by omega]
  have hperm := (FEq.perm h.2).filter (fun x => ahead ls x.toNat s)
  rw [e1] at hperm
  have hlen := hperm.length_eq
  rw [e2] at hlen
  rw [hlen]
  refine ⟨by simp, ?_⟩
  unfold rd
  rw [Int.toNat_natCast, List.getD_eq_getElem?_getD, List.getElem?_append_right (Nat.le_refl _)]
  simp

/-- n bits from p on as a number, the first one highest. -/
def vAt (bs : List Int) (p : Nat) : Nat → Int
  | 0 => 0
  | n + 1 => vAt bs p n * 2 + bitAt bs (p + n)
theorem vAt_bounds (bs : List Int) (p n : Nat) : 0 ≤ vAt bs p n ∧ vAt bs p n < 2 ^ n := by
  induction n with
  | zero => simp [vAt]
  | succ n ih =>
    have := bitAt_bounds bs (p + n)
    simp only [vAt, Int.pow_succ]; omega
theorem bitsVal_one (bs : List Int) (p : Nat) : bitsVal bs p 1 = bitAt bs p := by simp [bitsVal]
/-- The first n bits from p on are the code of symbol s, and fewer are none. -/
def Found (ls bs : List Int) (p n s : Nat) : Prop :=
  1 ≤ n ∧ n ≤ 15 ∧ s < ls.length ∧ ln ls s = n ∧ codeS ls s = vAt bs p n ∧ ∀ m : Nat, 1 ≤ m → m < n → upTo ls m ls.length ≤ vAt bs p m
/-- At step m, when fewer bits were no code. -/
theorem low_step (ls bs : List Int) (p : Nat) : ∀ m : Nat, (∀ j : Nat, 1 ≤ j → j < m → upTo ls j ls.length ≤ vAt bs p j) → 1 ≤ m → upTo ls m 0 ≤ vAt bs p m := by
  intro m h hm
  obtain ⟨k, rfl⟩ : ∃ k, m = k + 1 := ⟨m - 1, by omega⟩
  have hb := bitAt_bounds bs (p + k)
  rw [show ((k + 1 : Nat) : Int) = (k : Int) + 1 from rfl, upTo_next]
  show _ ≤ vAt bs p k * 2 + bitAt bs (p + k)
  by_cases hk : k = 0
  · subst hk
    have h1 := upTo_zero ls
    have h2 := bitAt_bounds bs (p + 0)
    rw [show (((0 : Nat) : Int)) = 0 from rfl, h1]
    unfold vAt; omega
  · have := h k (by omega) (by omega)
    omega
theorem found_ex {ls : List Int} (hc : checkS ls = 0) (hk : kraft ls = 32768) (bs : List Int) (p : Nat) : ∃ n s, Found ls bs p n s := by
  have h15 : vAt bs p 15 < upTo ls (15 : Nat) ls.length := by
    have h1 : upTo ls (15 : Nat) ls.length = kraft ls := by
      unfold upTo kraft
      refine sumTo_congr fun t ht => ?_
      unfold wgt
      by_cases hp : 0 < ln ls t
      · have h2 := ((complete hc).1 t).2
        rw [if_pos (by omega), if_pos hp]
        congr 1; omega
      · rw [if_neg (by omega), if_neg hp]
    have := (vAt_bounds bs p 15).2
    rw [h1, hk]; omega
  have hleast : ∀ N : Nat, (∃ n, 1 ≤ n ∧ n ≤ N ∧ vAt bs p n < upTo ls n ls.length) → ∃ n, 1 ≤ n ∧ n ≤ N ∧ vAt bs p n < upTo ls n ls.length ∧ ∀ m : Nat, 1 ≤ m → m < n → upTo ls m ls.length ≤ vAt bs p m := by
    intro N
    induction N with
    | zero => rintro ⟨n, h1, h2, _⟩; omega
    | succ N ih =>
      intro h
      by_cases hN : ∃ n, 1 ≤ n ∧ n ≤ N ∧ vAt bs p n < upTo ls n ls.length
      · obtain ⟨n, h1, h2, h3⟩ := ih hN
        exact ⟨n, h1, by omega, h3⟩
      · obtain ⟨n, h1, h2, h3⟩ := h
        have e : n = N + 1 := by
          by_cases e : n = N + 1
          · exact e
          · exact absurd ⟨n, h1, by omega, h3⟩ hN
        subst e
        refine ⟨N + 1, h1, h2, h3, fun m hm1 hm2 => ?_⟩
        by_cases hc : vAt bs p m < upTo ls m ls.length
        · exact absurd ⟨m, hm1, by omega, hc⟩ hN
        · omega
  obtain ⟨n, h1, h2, h3, h4⟩ := hleast 15 ⟨15, by omega, by omega, h15⟩
  have h5 := low_step ls bs p n h4 h1
  have h6 := upTo_eq ls n (by omega) ls.length (Nat.le_refl _)
  obtain ⟨s, h7, h8, h9⟩ := eqUp_find ls n (vAt bs p n - upTo ls n 0).toNat ls.length (by omega)
  refine ⟨n, s, h1, h2, h7, h8, ?_, h4⟩
  rw [← upTo_code, h8, upTo_eq ls n (by omega) s (by omega), h9]
  omega
end Go.Proofs.YtfeloicmkcfinaaDoor
