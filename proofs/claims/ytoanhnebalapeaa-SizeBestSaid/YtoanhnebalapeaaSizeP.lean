/- Plain theory of lengths that cost least: coins and packages. No program in sight. -/
import Derived.Test.YtoanhnebalapeaaCodeP
namespace Go.Proofs.Ytoanhnebalapeaa.Sz
open Srt

structure Pk where
  sum : Int
  syms : List Nat

abbrev Up (l : List Pk) : Prop := Sorted Pk.sum l
def tot (l : List Pk) : Int := (l.map Pk.sum).sum
theorem tot_append (a b : List Pk) : tot (a ++ b) = tot a + tot b := by simp [tot]
theorem tot_perm {a b : List Pk} (h : a.Perm b) : tot a = tot b := by
  unfold tot
  induction h with
  | nil => rfl
  | cons x _ ih => simp [ih]
  | swap x y l => simp; omega
  | trans _ _ ih1 ih2 => rw [ih1, ih2]

/-! ### Packages -/
def pairUp : List Pk → List Pk
  | a :: b :: t => ⟨a.sum + b.sum, a.syms ++ b.syms⟩ :: pairUp t
  | _ => []
theorem pairUp_length : ∀ l : List Pk, (pairUp l).length = l.length / 2
  | [] => rfl
  | [_] => by simp [pairUp]
  | a :: b :: t => by simp [pairUp, pairUp_length t]; omega
theorem pairUp_get : ∀ (l : List Pk) (j : Nat) (a b : Pk), l[2 * j]? = some a → l[2 * j + 1]? = some b → (pairUp l)[j]? = some ⟨a.sum + b.sum, a.syms ++ b.syms⟩
  | [], j, a, b, h, _ => by simp at h
  | [x], j, a, b, _, h => by simp at h
  | x :: y :: t, 0, a, b, h, h' => by simp at h h'; subst h h'; rfl
  | x :: y :: t, j + 1, a, b, h, h' => by
    rw [show 2 * (j + 1) = 2 * j + 1 + 1 from by omega] at h h'
    simp at h h'
    simpa [pairUp] using pairUp_get t j a b h h'
theorem pairUp_syms : ∀ (l : List Pk) (b : Nat), 2 * b ≤ l.length → ((pairUp l).take b).flatMap Pk.syms = (l.take (2 * b)).flatMap Pk.syms
  | l, 0, _ => by simp
  | [], b + 1, h => by simp at h
  | [_], b + 1, h => by simp at h; omega
  | x :: y :: t, b + 1, h => by
    have ih := pairUp_syms t b (by simp at h; omega)
    rw [show 2 * (b + 1) = 2 * b + 1 + 1 from by omega]
    simp [pairUp, ih]
theorem pairUp_tot : ∀ (l : List Pk) (b : Nat), 2 * b ≤ l.length → tot ((pairUp l).take b) = tot (l.take (2 * b))
  | l, 0, _ => by simp
  | [], b + 1, h => by simp at h
  | [_], b + 1, h => by simp at h; omega
  | x :: y :: t, b + 1, h => by
    have ih := pairUp_tot t b (by simp at h; omega)
    rw [show 2 * (b + 1) = 2 * b + 1 + 1 from by omega]
    unfold tot at ih ⊢
    simp [pairUp] at ih ⊢
    rw [ih]; omega
theorem pairUp_mem : ∀ (l : List Pk) (p : Pk), p ∈ pairUp l → ∃ a b, a ∈ l ∧ b ∈ l ∧ p.sum = a.sum + b.sum
  | [], p, h => by simp [pairUp] at h
  | [_], p, h => by simp [pairUp] at h
  | x :: y :: t, p, h => by
    simp only [pairUp, List.mem_cons] at h
    rcases h with rfl | h
    · exact ⟨x, y, by simp, by simp, rfl⟩
    · obtain ⟨a, b, h1, h2, h3⟩ := pairUp_mem t p h
      exact ⟨a, b, by simp [h1], by simp [h2], h3⟩
theorem pairUp_up : ∀ l : List Pk, Up l → Up (pairUp l)
  | [], _ => sorted_nil _
  | [_], _ => sorted_nil _
  | x :: y :: t, h => by
    unfold Up Sorted at h
    rw [List.pairwise_cons] at h
    obtain ⟨h1, h2⟩ := h
    rw [List.pairwise_cons] at h2
    refine List.pairwise_cons.2 ⟨fun p hp => ?_, pairUp_up t h2.2⟩
    obtain ⟨a, b, ha, hb, e⟩ := pairUp_mem t p hp
    rw [e]
    have := h1 a (by simp [ha]); have := h2.1 b hb
    show x.sum + y.sum ≤ _
    omega

/-! ### Two lists as one -/
def mrg : List Pk → List Pk → List Pk
  | [], q => q
  | a :: p, [] => a :: p
  | a :: p, b :: q => if a.sum ≤ b.sum then a :: mrg p (b :: q) else b :: mrg (a :: p) q
termination_by p q => p.length + q.length
theorem mrg_nil (q : List Pk) : mrg [] q = q := by rw [mrg]
theorem mrg_nil' (p : List Pk) : mrg p [] = p := by cases p <;> rw [mrg]
theorem mrg_cons (a b : Pk) (p q : List Pk) : mrg (a :: p) (b :: q) = if a.sum ≤ b.sum then a :: mrg p (b :: q) else b :: mrg (a :: p) q := by rw [mrg]
theorem mrg_perm (p q : List Pk) : (mrg p q).Perm (p ++ q) := by
  fun_induction mrg p q with
  | case1 q => simp
  | case2 a p => simp
  | case3 a p b q h ih => exact List.Perm.cons a ih
  | case4 a p b q h ih => exact (List.Perm.cons b ih).trans (List.perm_middle (l₁ := a :: p)).symm
theorem mrg_mem {p q : List Pk} {x : Pk} (h : x ∈ mrg p q) : x ∈ p ∨ x ∈ q := by simpa using (mrg_perm p q).mem_iff.1 h
theorem mrg_length (p q : List Pk) : (mrg p q).length = p.length + q.length := by simpa using (mrg_perm p q).length_eq
theorem mrg_up (p q : List Pk) (hp : Up p) (hq : Up q) : Up (mrg p q) := by
  fun_induction mrg p q with
  | case1 q => exact hq
  | case2 a p => exact hp
  | case3 a p b q h ih =>
    have hp' := List.pairwise_cons.1 hp
    have hq' := List.pairwise_cons.1 hq
    refine List.pairwise_cons.2 ⟨fun x hx => ?_, ih hp'.2 hq⟩
    rcases mrg_mem hx with h1 | h1
    · exact hp'.1 x h1
    · rcases List.mem_cons.1 h1 with rfl | h2
      · exact h
      · have := hq'.1 x h2; omega
  | case4 a p b q h ih =>
    have hp' := List.pairwise_cons.1 hp
    have hq' := List.pairwise_cons.1 hq
    refine List.pairwise_cons.2 ⟨fun x hx => ?_, ih hp hq'.2⟩
    rcases mrg_mem hx with h1 | h1
    · rcases List.mem_cons.1 h1 with rfl | h2
      · omega
      · have := hp'.1 x h2; omega
    · exact hq'.1 x h1
theorem mrg_feq (p q : List Pk) (hp : Up p) (hq : Up q) : FEq Pk.sum (p ++ q) (mrg p q) := by
  fun_induction mrg p q with
  | case1 q => simpa using FEq.refl _ _
  | case2 a p => simpa using FEq.refl _ _
  | case3 a p b q h ih =>
    have := (FEq.refl Pk.sum [a]).app (ih (List.pairwise_cons.1 hp).2 hq)
    simpa using this
  | case4 a p b q h ih =>
    have hp' := List.pairwise_cons.1 hp
    have h1 := (FEq.swap (key := Pk.sum) (a :: p) [b] (by
      intro x hx y hy
      rw [List.mem_singleton.1 hy]
      rcases List.mem_cons.1 hx with rfl | h2
      · omega
      · have := hp'.1 x h2; omega)).app (FEq.refl Pk.sum q)
    have h2 := (FEq.refl Pk.sum [b]).app (ih hp (List.pairwise_cons.1 hq).2)
    refine FEq.trans ?_ h2
    simpa using h1

/-- How many of the first list stand among the first m of both. -/
def cut : List Pk → List Pk → Nat → Nat
  | _, _, 0 => 0
  | [], _, _ + 1 => 0
  | _ :: p, [], m + 1 => cut p [] m + 1
  | a :: p, b :: q, m + 1 => if a.sum ≤ b.sum then cut p (b :: q) m + 1 else cut (a :: p) q m
theorem cut_spec : ∀ (m : Nat) (p q : List Pk), m ≤ p.length + q.length → cut p q m ≤ p.length ∧ cut p q m ≤ m ∧ m - cut p q m ≤ q.length ∧ ((mrg p q).take m).Perm (p.take (cut p q m) ++ q.take (m - cut p q m))
  | 0, p, q, _ => by simp [cut]
  | m + 1, [], q, h => by
    rw [mrg_nil]
    simp [cut] at h ⊢
    exact h
  | m + 1, a :: p, [], h => by
    have ih := cut_spec m p [] (by simp at h ⊢; omega)
    rw [mrg_nil']
    rw [mrg_nil'] at ih
    simp only [cut, List.length_cons, List.take_nil, List.append_nil, List.length_nil, List.take_succ_cons] at ih ⊢
    exact ⟨by omega, by omega, by omega, ih.2.2.2.cons a⟩
  | m + 1, a :: p, b :: q, h => by
    rw [mrg_cons]
    by_cases hab : a.sum ≤ b.sum
    · have ih := cut_spec m p (b :: q) (by simp at h ⊢; omega)
      simp only [cut, if_pos hab, List.length_cons, List.take_succ_cons] at ih ⊢
      refine ⟨by omega, by omega, by omega, ?_⟩
      rw [show m + 1 - (cut p (b :: q) m + 1) = m - cut p (b :: q) m from by omega]
      exact ih.2.2.2.cons a
    · have ih := cut_spec m (a :: p) q (by simp at h ⊢; omega)
      simp only [cut, if_neg hab, List.length_cons, List.take_succ_cons] at ih ⊢
      refine ⟨by omega, by omega, by omega, ?_⟩
      rw [show m + 1 - cut (a :: p) q m = (m - cut (a :: p) q m) + 1 from by omega, List.take_succ_cons]
      exact (ih.2.2.2.cons b).trans List.perm_middle.symm
/-- Of two that weigh the same the first list's stands ahead. -/
theorem cut_tie : ∀ (m : Nat) (p q : List Pk), Up p → m ≤ p.length + q.length → ∀ (i j : Nat) (x y : Pk), p[i]? = some x → q[j]? = some y → j < m - cut p q m → x.sum ≤ y.sum → i < cut p q m
  | 0, p, q, _, _ => by intro i j x y _ _ h; omega
  | m + 1, [], q, _, _ => by intro i j x y h; simp at h
  | m + 1, a :: p, [], _, _ => by intro i j x y _ h; simp at h
  | m + 1, a :: p, b :: q, hp, h => by
    intro i j x y hx hy hj hxy
    by_cases hab : a.sum ≤ b.sum
    · simp only [cut, if_pos hab] at hj ⊢
      cases i with
      | zero => omega
      | succ i =>
        have := cut_tie m p (b :: q) (List.pairwise_cons.1 hp).2 (by simp at h ⊢; omega) i j x y (by simpa using hx) hy (by omega) hxy
        omega
    · simp only [cut, if_neg hab] at hj ⊢
      have hc := (cut_spec m (a :: p) q (by simp at h ⊢; omega)).2.1
      cases j with
      | zero =>
        exfalso
        simp at hy
        subst hy
        have hm : x ∈ a :: p := List.mem_of_getElem? hx
        rcases List.mem_cons.1 hm with rfl | h2
        · omega
        · have := (List.pairwise_cons.1 hp).1 x h2; omega
      | succ j => exact cut_tie m (a :: p) q hp (by simp at h ⊢; omega) i j x y hx (by simpa using hy) (by omega) hxy
theorem cut_pos : ∀ (m : Nat) (p q : List Pk) (i : Nat) (x : Pk), p[i]? = some x → i < cut p q m → ∃ t, t < m ∧ (mrg p q)[t]? = some x
  | 0, p, q, i, x, _, h => by simp [cut] at h
  | m + 1, [], q, i, x, h, _ => by simp at h
  | m + 1, a :: p, [], i, x, hx, h => by
    rw [mrg_nil']
    cases i with
    | zero => exact ⟨0, by omega, hx⟩
    | succ i =>
      simp only [cut] at h
      obtain ⟨t, h1, h2⟩ := cut_pos m p [] i x (by simpa using hx) (by omega)
      rw [mrg_nil'] at h2
      exact ⟨t + 1, by omega, by simpa using h2⟩
  | m + 1, a :: p, b :: q, i, x, hx, h => by
    rw [mrg_cons]
    by_cases hab : a.sum ≤ b.sum
    · simp only [cut, if_pos hab] at h ⊢
      cases i with
      | zero => exact ⟨0, by omega, by simpa using hx⟩
      | succ i =>
        obtain ⟨t, h1, h2⟩ := cut_pos m p (b :: q) i x (by simpa using hx) (by omega)
        exact ⟨t + 1, by omega, by simpa using h2⟩
    · simp only [cut, if_neg hab] at h ⊢
      obtain ⟨t, h1, h2⟩ := cut_pos m (a :: p) q i x hx h
      exact ⟨t + 1, by omega, by simpa using h2⟩

/-! ### The lists of each level, and how many coins of each are taken -/
def pm (C : List Pk) : Nat → List Pk
  | 0 => C
  | k + 1 => mrg C (pairUp (pm C k))
theorem pm_succ (C : List Pk) (k : Nat) : pm C (k + 1) = mrg C (pairUp (pm C k)) := rfl
theorem pm_length (C : List Pk) (k : Nat) : (pm C (k + 1)).length = C.length + (pm C k).length / 2 := by rw [pm_succ, mrg_length, pairUp_length]
theorem pm_up (C : List Pk) (h : Up C) : ∀ k, Up (pm C k)
  | 0 => h
  | k + 1 => mrg_up _ _ h (pairUp_up _ (pm_up C h k))
theorem pm_nonneg (C : List Pk) (h : ∀ x ∈ C, 0 ≤ x.sum) : ∀ k, ∀ x ∈ pm C k, 0 ≤ x.sum
  | 0 => h
  | k + 1 => fun x hx => by
    rcases mrg_mem hx with h1 | h1
    · exact h x h1
    · obtain ⟨a, b, ha, hb, e⟩ := pairUp_mem _ x h1
      have := pm_nonneg C h k a ha; have := pm_nonneg C h k b hb; omega
theorem pm_room (C : List Pk) : ∀ (k d : Nat), C.length ≤ d * 2 ^ k → 2 * C.length ≤ (pm C k).length + d
  | 0, d, h => by simp at h; show _ ≤ C.length + d; omega
  | k + 1, d, h => by
    have ih := pm_room C k (2 * d) (by rw [Nat.pow_succ] at h; rw [Nat.mul_comm 2 d, Nat.mul_assoc, Nat.mul_comm 2]; exact h)
    rw [pm_length]; omega
theorem pm_le (C : List Pk) : ∀ k, (pm C k).length ≤ 2 * C.length
  | 0 => by show C.length ≤ _; omega
  | k + 1 => by have := pm_le C k; rw [pm_length]; omega

def occ (C : List Pk) : Nat → Nat → List Nat
  | 0, m => [m]
  | k + 1, m => cut C (pairUp (pm C k)) m :: occ C k (2 * (m - cut C (pairUp (pm C k)) m))
theorem occ_length (C : List Pk) : ∀ k m, (occ C k m).length = k + 1
  | 0, _ => rfl
  | k + 1, m => by simp [occ, occ_length C k]
/-- What a level's step knows. -/
theorem occ_step (C : List Pk) (k m : Nat) (h : m ≤ (pm C (k + 1)).length) :
    cut C (pairUp (pm C k)) m ≤ C.length ∧ cut C (pairUp (pm C k)) m ≤ m ∧ 2 * (m - cut C (pairUp (pm C k)) m) ≤ (pm C k).length ∧
      ((pm C (k + 1)).take m).Perm (C.take (cut C (pairUp (pm C k)) m) ++ (pairUp (pm C k)).take (m - cut C (pairUp (pm C k)) m)) := by
  obtain ⟨h1, h2, h3, h4⟩ := cut_spec m C (pairUp (pm C k)) (by rw [pm_length] at h; rw [pairUp_length]; exact h)
  rw [pairUp_length] at h3
  exact ⟨h1, h2, by omega, h4⟩
theorem occ_le (C : List Pk) : ∀ k m, m ≤ (pm C k).length → ∀ a ∈ occ C k m, a ≤ C.length
  | 0, m, h => by intro a ha; simp [occ] at ha; subst ha; exact h
  | k + 1, m, h => by
    obtain ⟨h1, h2, h3, _⟩ := occ_step C k m h
    intro a ha
    rcases List.mem_cons.1 ha with rfl | h4
    · exact h1
    · exact occ_le C k _ h3 a h4
theorem occ_syms (C : List Pk) : ∀ k m, m ≤ (pm C k).length → (((pm C k).take m).flatMap Pk.syms).Perm ((occ C k m).flatMap fun a => (C.take a).flatMap Pk.syms)
  | 0, m, _ => by simp [occ, pm]
  | k + 1, m, h => by
    obtain ⟨h1, h2, h3, h4⟩ := occ_step C k m h
    have h5 := List.Perm.flatMap_right Pk.syms h4
    rw [List.flatMap_append, pairUp_syms _ _ h3] at h5
    refine h5.trans ?_
    simp only [occ, List.flatMap_cons]
    exact (occ_syms C k _ h3).append_left _
theorem occ_tot (C : List Pk) : ∀ k m, m ≤ (pm C k).length → tot ((pm C k).take m) = ((occ C k m).map fun a => tot (C.take a)).sum
  | 0, m, _ => by simp [occ, pm]
  | k + 1, m, h => by
    obtain ⟨h1, h2, h3, h4⟩ := occ_step C k m h
    rw [tot_perm h4, tot_append, pairUp_tot _ _ h3, occ_tot C k _ h3]
    simp [occ]
/-- The width of a selection. -/
def wd : List Nat → Nat
  | [] => 0
  | a :: t => a * 2 ^ t.length + wd t
theorem occ_wd (C : List Pk) : ∀ k m, m ≤ (pm C k).length → wd (occ C k m) = m * 2 ^ k
  | 0, m, _ => by simp [occ, wd]
  | k + 1, m, h => by
    obtain ⟨h1, h2, h3, _⟩ := occ_step C k m h
    simp only [occ, wd, occ_length]
    rw [occ_wd C k _ h3, Nat.pow_succ]
    generalize cut C (pairUp (pm C k)) m = a at *
    obtain ⟨b, rfl⟩ : ∃ b, m = a + b := ⟨m - a, by omega⟩
    rw [show a + b - a = b from by omega, Nat.add_mul, Nat.mul_comm 2 b, Nat.mul_assoc b 2, Nat.mul_comm 2]
theorem occ_head_pos (C : List Pk) (k m : Nat) (i : Nat) (x : Pk) (hx : C[i]? = some x) (h : i < (occ C k m).headD 0) : ∃ t, t < m ∧ (pm C k)[t]? = some x := by
  cases k with
  | zero => exact ⟨i, by simpa [occ] using h, hx⟩
  | succ k => exact cut_pos m C _ i x hx (by simpa [occ] using h)
/-- The deeper the level, the fewer coins. -/
theorem occ_desc (C : List Pk) (hu : Up C) (hn : ∀ x ∈ C, 0 ≤ x.sum) : ∀ k m, m ≤ (pm C k).length → (occ C k m).Pairwise (fun a b => b ≤ a)
  | 0, m, _ => by simp [occ]
  | k + 1, m, h => by
    obtain ⟨h1, h2, h3, _⟩ := occ_step C k m h
    have ih := occ_desc C hu hn k _ h3
    have hle := occ_le C k _ h3
    have hhd : (occ C k (2 * (m - cut C (pairUp (pm C k)) m))).headD 0 ≤ cut C (pairUp (pm C k)) m := by
      refine Nat.le_of_not_lt fun hlt => ?_
      have hin : (occ C k (2 * (m - cut C (pairUp (pm C k)) m))).headD 0 ≤ C.length := by
        cases hq : occ C k (2 * (m - cut C (pairUp (pm C k)) m)) with
        | nil => simp
        | cons a t => exact hle a (by rw [hq]; simp)
      obtain ⟨t, ht, hgt⟩ := occ_head_pos C k _ _ _ (List.getElem?_eq_getElem (by omega : cut C (pairUp (pm C k)) m < C.length)) hlt
      have hj : t / 2 < m - cut C (pairUp (pm C k)) m := by omega
      have ha : 2 * (t / 2) < (pm C k).length := by omega
      have hb : 2 * (t / 2) + 1 < (pm C k).length := by omega
      have hp := pairUp_get (pm C k) (t / 2) _ _ (List.getElem?_eq_getElem ha) (List.getElem?_eq_getElem hb)
      have na := pm_nonneg C hn k _ (List.getElem_mem ha)
      have nb := pm_nonneg C hn k _ (List.getElem_mem hb)
      have hs : (C[cut C (pairUp (pm C k)) m]'(by omega)).sum ≤ (pm C k)[2 * (t / 2)].sum + (pm C k)[2 * (t / 2) + 1].sum := by
        rcases Nat.mod_two_eq_zero_or_one t with e | e
        · have : t = 2 * (t / 2) := by omega
          rw [this, List.getElem?_eq_getElem ha] at hgt
          injection hgt with hgt
          rw [← hgt]; omega
        · have : t = 2 * (t / 2) + 1 := by omega
          rw [this, List.getElem?_eq_getElem hb] at hgt
          injection hgt with hgt
          rw [← hgt]; omega
      have := cut_tie m C (pairUp (pm C k)) hu (by rw [pm_length] at h; rw [pairUp_length]; exact h) _ _ _ _ (List.getElem?_eq_getElem (by omega : cut C (pairUp (pm C k)) m < C.length)) hp hj hs
      omega
    simp only [occ]
    refine List.pairwise_cons.2 ⟨fun a ha => ?_, ih⟩
    cases hq : occ C k (2 * (m - cut C (pairUp (pm C k)) m)) with
    | nil => rw [hq] at ha; simp at ha
    | cons c t =>
      rw [hq] at ha ih hhd
      simp at hhd
      rcases List.mem_cons.1 ha with rfl | h4
      · exact hhd
      · exact Nat.le_trans ((List.pairwise_cons.1 ih).1 a h4) hhd
/-- All coins of the first level are taken. -/
theorem occ_all (C : List Pk) (h2 : 2 ≤ C.length) : ∀ k m, m ≤ (pm C k).length → 2 * C.length - 2 ≤ m → C.length ∈ occ C k m
  | 0, m, h, hm => by
    have : m ≤ C.length := h
    simp [occ]; omega
  | k + 1, m, h, hm => by
    obtain ⟨h1, h2', h3, _⟩ := occ_step C k m h
    simp only [occ, List.mem_cons]
    by_cases e : C.length = cut C (pairUp (pm C k)) m
    · exact .inl e
    · exact .inr (occ_all C h2 k _ h3 (by omega))
end Go.Proofs.Ytoanhnebalapeaa.Sz
