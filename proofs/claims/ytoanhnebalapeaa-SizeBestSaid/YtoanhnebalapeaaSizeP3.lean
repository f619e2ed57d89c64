/- Plain theory of lengths that cost least: more room, equal counts, sums alone. No program in sight. -/
import Derived.Test.YtoanhnebalapeaaSizeP2
namespace Go.Proofs.Ytoanhnebalapeaa.Sz
open Srt

/-! ### More room costs no more -/
theorem tot_take_succ (l : List Pk) (a : Nat) (x : Pk) (h : l[a]? = some x) : tot (l.take (a + 1)) = tot (l.take a) + x.sum := by
  rw [List.take_add_one, h, tot_append]; simp [tot]
theorem tot_take_last (l : List Pk) (a : Nat) (c : Int) (ha : a < l.length) (h : ∀ x ∈ l, c ≤ x.sum) : tot (l.take a) + c ≤ tot (l.take (a + 1)) := by
  rw [tot_take_succ l a _ (List.getElem?_eq_getElem ha)]
  have := h _ (List.getElem_mem ha)
  omega
theorem mrg_low : ∀ (n : Nat) (p q : List Pk), Up p → Up q → ∀ a b, a ≤ p.length → b ≤ q.length → a + b = n → tot ((mrg p q).take n) ≤ tot (p.take a) + tot (q.take b)
  | 0, p, q, _, _ => by
    intro a b _ _ h
    obtain ⟨rfl, rfl⟩ : a = 0 ∧ b = 0 := by omega
    simp [tot]
  | n + 1, [], q, _, _ => by
    intro a b ha _ h
    have ha : a = 0 := by simpa using ha
    subst ha
    rw [mrg_nil, show b = n + 1 from by omega]
    simp [tot]
  | n + 1, x :: p, [], _, _ => by
    intro a b _ hb h
    have hb : b = 0 := by simpa using hb
    subst hb
    rw [mrg_nil', show a = n + 1 from by omega]
    simp [tot]
  | n + 1, x :: p, y :: q, hp, hq => by
    intro a b ha hb h
    have hp' := List.pairwise_cons.1 hp
    have hq' := List.pairwise_cons.1 hq
    rw [mrg_cons]
    have tc : ∀ (z : Pk) (l : List Pk), tot (z :: l) = z.sum + tot l := fun z l => by simp [tot]
    have t0 : tot [] = 0 := rfl
    by_cases hxy : x.sum ≤ y.sum
    · rw [if_pos hxy, List.take_succ_cons, tc]
      cases a with
      | zero =>
        obtain ⟨b', rfl⟩ : ∃ b', b = b' + 1 := ⟨b - 1, by omega⟩
        have ih := mrg_low n p (y :: q) hp'.2 hq 0 b' (by omega) (by omega) (by omega)
        have h1 := tot_take_last (y :: q) b' x.sum (by omega) (by
          intro z hz
          rcases List.mem_cons.1 hz with rfl | h2
          · exact hxy
          · have := hq'.1 z h2; omega)
        simp only [List.take_zero, t0] at ih ⊢
        omega
      | succ a =>
        have ih := mrg_low n p (y :: q) hp'.2 hq a b (by simp at ha; exact ha) hb (by omega)
        rw [List.take_succ_cons, tc]; omega
    · rw [if_neg hxy, List.take_succ_cons, tc]
      cases b with
      | zero =>
        obtain ⟨a', rfl⟩ : ∃ a', a = a' + 1 := ⟨a - 1, by omega⟩
        have ih := mrg_low n (x :: p) q hp hq'.2 a' 0 (by omega) (by omega) (by omega)
        have h1 := tot_take_last (x :: p) a' y.sum (by omega) (by
          intro z hz
          rcases List.mem_cons.1 hz with rfl | h2
          · omega
          · have := hp'.1 z h2; omega)
        simp only [List.take_zero, t0] at ih ⊢
        omega
      | succ b =>
        have ih := mrg_low n (x :: p) q hp hq'.2 a b ha (by simp at hb; exact hb) (by omega)
        rw [List.take_succ_cons, tc]; omega
theorem pm_low (C : List Pk) (hu : Up C) (k a b : Nat) (ha : a ≤ C.length) (hb : 2 * b ≤ (pm C k).length) : tot ((pm C (k + 1)).take (a + b)) ≤ tot (C.take a) + tot ((pm C k).take (2 * b)) := by
  have := mrg_low (a + b) C (pairUp (pm C k)) hu (pairUp_up _ (pm_up C hu k)) a b ha (by rw [pairUp_length]; omega) rfl
  rw [pairUp_tot _ _ hb] at this
  exact this
theorem pm_more (C : List Pk) : ∀ k, (pm C k).length ≤ (pm C (k + 1)).length
  | 0 => by rw [pm_length]; show C.length ≤ _; omega
  | k + 1 => by have := pm_more C k; rw [pm_length, pm_length C (k + 1)]; omega
theorem pm_wide (C : List Pk) (hu : Up C) : ∀ k m, m ≤ (pm C k).length → tot ((pm C (k + 1)).take m) ≤ tot ((pm C k).take m)
  | 0, m, h => by
    have := pm_low C hu 0 m 0 h (by omega)
    simp [tot] at this ⊢
    exact this
  | k + 1, m, h => by
    obtain ⟨h1, h2, h3, h4⟩ := occ_step C k m h
    have ih := pm_wide C hu k _ h3
    have hl := pm_low C hu (k + 1) (cut C (pairUp (pm C k)) m) (m - cut C (pairUp (pm C k)) m) h1 (Nat.le_trans h3 (pm_more C k))
    rw [show cut C (pairUp (pm C k)) m + (m - cut C (pairUp (pm C k)) m) = m from by omega] at hl
    rw [tot_perm h4, tot_append, pairUp_tot _ _ h3]
    omega
theorem tot_take_le (C : List Pk) (hn : ∀ x ∈ C, 0 ≤ x.sum) (a : Nat) : tot (C.take a) ≤ tot C := by
  have : tot C = tot (C.take a) + tot (C.drop a) := by rw [← tot_append, List.take_append_drop]
  have h2 : ∀ l : List Pk, (∀ x ∈ l, 0 ≤ x.sum) → 0 ≤ tot l := by
    intro l
    induction l with
    | nil => intro _; simp [tot]
    | cons x l ih => intro h; have := h x (by simp); have := ih (fun y hy => h y (by simp [hy])); simp [tot] at this ⊢; omega
  have := h2 (C.drop a) (fun x hx => hn x (List.mem_of_mem_drop hx))
  omega
theorem tot_nonneg (C : List Pk) (hn : ∀ x ∈ C, 0 ≤ x.sum) : 0 ≤ tot C := by
  have := tot_take_le C hn 0
  simpa [tot] using this
theorem pm_cheap (C : List Pk) (hu : Up C) (hn : ∀ x ∈ C, 0 ≤ x.sum) : ∀ (j k m e : Nat), j ≤ k → m ≤ (pm C k).length → m + e ≤ 2 * C.length → C.length < e * 2 ^ j → tot ((pm C k).take m) ≤ (j + 1 : Nat) * tot C
  | j, k, m, e, hj, hm, he, hp => by
    have h0 := tot_nonneg C hn
    have hT : ∀ q : Nat, tot C ≤ (q + 1 : Nat) * tot C := fun q => by
      have := Int.mul_le_mul_of_nonneg_right (show (1 : Int) ≤ (q + 1 : Nat) from by omega) h0
      rwa [Int.one_mul] at this
    by_cases hlt : m ≤ C.length
    · refine Int.le_trans ?_ (hT j)
      cases k with
      | zero => exact tot_take_le C hn m
      | succ k =>
        have := pm_low C hu k m 0 hlt (by omega)
        simp [tot] at this
        have h2 := tot_take_le C hn m
        simp [tot] at h2 ⊢
        omega
    · cases j with
      | zero => simp at hp; omega
      | succ j =>
        obtain ⟨k, rfl⟩ : ∃ k', k = k' + 1 := ⟨k - 1, by omega⟩
        rw [pm_length] at hm
        have ih := pm_cheap C hu hn j k (2 * (m - C.length)) (2 * e) (by omega) (by omega) (by omega) (by rw [Nat.pow_succ, Nat.mul_comm (2 ^ j) 2, ← Nat.mul_assoc, Nat.mul_comm e 2] at hp; exact hp)
        have hl := pm_low C hu k C.length (m - C.length) (Nat.le_refl _) (by omega)
        rw [show C.length + (m - C.length) = m from by omega, List.take_length] at hl
        have e1 : ((j + 1 + 1 : Nat) : Int) * tot C = tot C + ((j + 1 : Nat) : Int) * tot C := by
          rw [show ((j + 1 + 1 : Nat) : Int) = 1 + ((j + 1 : Nat) : Int) from by omega, Int.add_mul, Int.one_mul]
        rw [e1]
        omega
variable {f : Nat → Int} {m : Nat} {cs : List Nat} {k : Nat}
theorem least_wide (h : Coins f m cs k) : leastS f cs (k + 1) ≤ leastS f cs k := pm_wide _ h.up k _ h.le
theorem least_cheap (h : Coins f m cs k) (hk : 5 ≤ k) (hn : cs.length < 64) : leastS f cs k ≤ 6 * (cs.map f).sum := by
  have := pm_cheap (cs.map (coin f)) h.up h.nonneg 5 k (2 * cs.length - 2) 2 hk h.le (by rw [List.length_map]; have := h.two; omega) (by rw [List.length_map]; omega)
  rw [coins_tot] at this
  exact this
theorem Coins.wider (h : Coins f m cs k) : Coins f m cs (k + 1) := ⟨h.nodup, h.lt, h.nn, h.sorted, h.two, Nat.le_trans h.room (Nat.pow_le_pow_right (by decide) (by omega))⟩

/-! ### Equal counts -/
theorem cut_flat (w : Int) : ∀ (n : Nat) (p q : List Pk), (∀ x ∈ p, x.sum = w) → (∀ y ∈ q, w ≤ y.sum) → cut p q n = min n p.length
  | 0, p, q, _, _ => by simp [cut]
  | n + 1, [], q, _, _ => by simp [cut]
  | n + 1, a :: p, [], hp, hq => by
    simp only [cut, List.length_cons]
    rw [cut_flat w n p [] (fun x hx => hp x (by simp [hx])) hq]; omega
  | n + 1, a :: p, b :: q, hp, hq => by
    have h1 := hp a (by simp)
    have h2 := hq b (by simp)
    simp only [cut, List.length_cons]
    rw [if_pos (by omega), cut_flat w n p (b :: q) (fun x hx => hp x (by simp [hx])) hq]; omega
theorem pm_ge (C : List Pk) (w : Int) (h0 : 0 ≤ w) (h : ∀ x ∈ C, x.sum = w) : ∀ k, ∀ x ∈ pm C k, w ≤ x.sum
  | 0 => fun x hx => by have := h x hx; omega
  | k + 1 => fun x hx => by
    rcases mrg_mem hx with h1 | h1
    · have := h x h1; omega
    · obtain ⟨a, b, ha, hb, e⟩ := pairUp_mem _ x h1
      have := pm_ge C w h0 h k a ha; have := pm_ge C w h0 h k b hb; omega
theorem occ_flat (C : List Pk) (w : Int) (h0 : 0 ≤ w) (h : ∀ x ∈ C, x.sum = w) (bits : Nat) (hn : C.length = 2 ^ bits) (i : Nat) (hi : i < C.length) :
    ∀ (k j : Nat), j ≤ bits → bits ≤ k + 1 + j → lv (occ C k (2 * C.length - 2 ^ (j + 1))) i = bits - j
  | 0, j, hj, hk => by
    simp only [occ, lv_cons]
    rw [show lv [] i = 0 from rfl]
    by_cases e : j = bits
    · subst e
      rw [hn, Nat.pow_succ]; split <;> omega
    · rw [show j + 1 = bits from by omega, ← hn, if_pos (by omega)]; omega
  | k + 1, j, hj, hk => by
    have hg : ∀ y ∈ pairUp (pm C k), w ≤ y.sum := fun y hy => by
      obtain ⟨a, b, ha, hb, e⟩ := pairUp_mem _ y hy
      have := pm_ge C w h0 h k a ha; have := pm_ge C w h0 h k b hb; omega
    simp only [occ, lv_cons]
    rw [cut_flat w _ C _ h hg]
    by_cases e : j = bits
    · subst e
      have e2 : 2 * C.length - 2 ^ (j + 1) = 0 := by rw [hn, Nat.pow_succ]; omega
      rw [e2]
      have := occ_flat C w h0 h j hn i hi k j (Nat.le_refl _) (by omega)
      rw [e2] at this
      simp [this]
    · have hle : 2 ^ (j + 1) ≤ C.length := by rw [hn]; exact Nat.pow_le_pow_right (by decide) (by omega)
      rw [show min (2 * C.length - 2 ^ (j + 1)) C.length = C.length from by omega, if_pos hi]
      have := occ_flat C w h0 h bits hn i hi k (j + 1) (by omega) (by omega)
      rw [show 2 * (2 * C.length - 2 ^ (j + 1) - C.length) = 2 * C.length - 2 ^ (j + 1 + 1) from by rw [Nat.pow_succ 2 (j + 1)]; omega, this]
      omega
theorem best_flat (h : Coins f m cs k) (w : Int) (h0 : 0 ≤ w) (hw : ∀ s ∈ cs, f s = w) (bits : Nat) (hn : cs.length = 2 ^ bits) (hk : bits ≤ k + 1) (s : Nat) (hs : s ∈ cs) : ln (bestS f m cs k) s = bits := by
  obtain ⟨i, hi⟩ := List.getElem?_of_mem hs
  rw [best_rank h i s hi]
  have := occ_flat (cs.map (coin f)) w h0 (fun x hx => by obtain ⟨t, ht, rfl⟩ := List.mem_map.1 hx; exact hw t ht) bits (by rw [List.length_map]; exact hn) i (by rw [List.length_map]; exact (List.getElem?_eq_some_iff.1 hi).1) k 0 (by omega) (by omega)
  rw [List.length_map] at this
  unfold rks
  rw [show 2 * cs.length - 2 = 2 * cs.length - 2 ^ (0 + 1) from rfl, this]; omega

/-! ### Sums alone -/
def pairSum : List Int → List Int
  | a :: b :: t => (a + b) :: pairSum t
  | _ => []
theorem pairSum_length : ∀ l : List Int, (pairSum l).length = l.length / 2
  | [] => rfl
  | [_] => by simp [pairSum]
  | a :: b :: t => by simp [pairSum, pairSum_length t]; omega
theorem pairSum_map : ∀ l : List Pk, pairSum (l.map Pk.sum) = (pairUp l).map Pk.sum
  | [] => rfl
  | [_] => by simp [pairSum, pairUp]
  | a :: b :: t => by simp [pairSum, pairUp, pairSum_map t]
theorem up_unique {a b : List Int} (ha : a.Pairwise (· ≤ ·)) (hb : b.Pairwise (· ≤ ·)) (h : a.Perm b) : a = b := by
  refine sorted_unique (key := fun x : Int => x) ha hb fun k => ?_
  have e : ∀ l : List Int, l.filter (fun x => x == k) = List.replicate (l.count k) k := fun l => by
    rw [List.count_eq_length_filter]
    exact (List.eq_replicate_iff.2 ⟨rfl, fun x hx => by simpa using (List.mem_filter.1 hx).2⟩)
  rw [e a, e b, h.count_eq]
/-- The reference's rows are the sums of the lists. -/
theorem row_next (C L : List Pk) (hC : Up C) (hL : Up L) (r : List Int) (hr : r.Pairwise (· ≤ ·)) (hp : r.Perm (C.map Pk.sum ++ pairSum (L.map Pk.sum))) : r = (mrg C (pairUp L)).map Pk.sum := by
  refine up_unique hr (List.pairwise_map.2 (mrg_up _ _ hC (pairUp_up _ hL))) ?_
  rw [pairSum_map, ← List.map_append] at hp
  exact hp.trans ((mrg_perm _ _).symm.map _)
end Go.Proofs.Ytoanhnebalapeaa.Sz
