/- Plain theory of lengths that cost least: what the lengths are. No program in sight. -/
import Derived.Test.YtbljoihnjhllhaaLensFlat2
namespace Go.Proofs.Ytbljoihnjhllhaa.Sz
open Srt

def coin (f : Nat → Int) (s : Nat) : Pk := ⟨f s, [s]⟩
theorem coins_take (f : Nat → Int) (cs : List Nat) (a : Nat) : ((cs.map (coin f)).take a).flatMap Pk.syms = cs.take a := by
  rw [← List.map_take]
  induction cs.take a with
  | nil => rfl
  | cons s t ih => simp [coin] at ih ⊢; exact ih
theorem coins_tot (f : Nat → Int) (cs : List Nat) : tot (cs.map (coin f)) = (cs.map f).sum := by
  unfold tot
  rw [List.map_map]; rfl
theorem coins_up (f : Nat → Int) (cs : List Nat) (h : Sorted f cs) : Up (cs.map (coin f)) := List.pairwise_map.2 h

/-! ### How many levels take coin i -/
def lv (as : List Nat) (i : Nat) : Nat := as.countP (fun a => decide (i < a))
def wi : List Nat → Nat → Nat
  | [], _ => 0
  | a :: t, i => (if i < a then 2 ^ t.length else 0) + wi t i
theorem lv_le (as : List Nat) (i : Nat) : lv as i ≤ as.length := List.countP_le_length
theorem lv_cons (a : Nat) (as : List Nat) (i : Nat) : lv (a :: as) i = lv as i + if i < a then 1 else 0 := by
  unfold lv; rw [List.countP_cons]; simp
theorem lv_mono (as : List Nat) {i j : Nat} (h : i ≤ j) : lv as j ≤ lv as i := by
  induction as with
  | nil => simp [lv]
  | cons a as ih => rw [lv_cons, lv_cons]; split <;> split <;> omega
theorem wi_eq (as : List Nat) (h : as.Pairwise (fun a b => b ≤ a)) (i : Nat) : wi as i + 2 ^ (as.length - lv as i) = 2 ^ as.length := by
  induction as with
  | nil => simp [wi, lv]
  | cons a t ih =>
    have hp := List.pairwise_cons.1 h
    have ih := ih hp.2
    rw [lv_cons]
    by_cases hi : i < a
    · have hle := lv_le t i
      simp only [wi, if_pos hi, List.length_cons]
      rw [show t.length + 1 - (lv t i + 1) = t.length - lv t i from by omega, Nat.pow_succ]
      omega
    · have h0 : lv t i = 0 := by
        unfold lv
        rw [List.countP_eq_zero]
        intro b hb
        have := hp.1 b hb
        simp; omega
      rw [h0] at ih ⊢
      simp only [wi, if_neg hi, List.length_cons]
      simp at ih ⊢
      exact ih
theorem sum_if (c a : Nat) : ∀ n, a ≤ n → ((List.range n).map (fun i => if i < a then c else 0)).sum = a * c := by
  intro n
  induction n generalizing a with
  | zero =>
    intro h
    obtain rfl : a = 0 := by omega
    simp
  | succ n ih =>
    intro h
    rw [List.range_succ, List.map_append, List.sum_append]
    by_cases e : a = n + 1
    · subst e
      have h1 : (List.range n).map (fun i => if i < n + 1 then c else 0) = (List.range n).map (fun i => if i < n then c else 0) := by
        apply List.map_congr_left
        intro i hi
        rw [List.mem_range] at hi
        rw [if_pos (by omega), if_pos hi]
      rw [h1, ih n (Nat.le_refl _)]
      simp [Nat.succ_mul]
    · rw [ih a (by omega)]
      simp; omega
theorem sum_add (l : List Nat) (f g : Nat → Nat) : (l.map (fun i => f i + g i)).sum = (l.map f).sum + (l.map g).sum := by
  induction l with
  | nil => rfl
  | cons x l ih => simp [ih]; omega
theorem sum_const (l : List Nat) (c : Nat) : (l.map (fun _ => c)).sum = l.length * c := by
  induction l with
  | nil => simp
  | cons x l ih => simp [ih, Nat.succ_mul]; omega
theorem wi_sum (as : List Nat) (n : Nat) (h : ∀ a ∈ as, a ≤ n) : ((List.range n).map (wi as)).sum = wd as := by
  induction as with
  | nil =>
    show ((List.range n).map (fun _ => 0)).sum = 0
    rw [sum_const]; simp
  | cons a t ih =>
    have : (List.range n).map (wi (a :: t)) = (List.range n).map (fun i => (if i < a then 2 ^ t.length else 0) + wi t i) := rfl
    rw [this, sum_add, sum_if _ _ _ (h a (by simp)), ih (fun b hb => h b (by simp [hb]))]
    rfl
theorem ranks_sum (as : List Nat) (n : Nat) (h : as.Pairwise (fun a b => b ≤ a)) (hle : ∀ a ∈ as, a ≤ n) (hn : 1 ≤ n) (hw : wd as = (n - 1) * 2 ^ as.length) :
    ((List.range n).map (fun i => 2 ^ (as.length - lv as i))).sum = 2 ^ as.length := by
  have h1 := sum_add (List.range n) (wi as) (fun i => 2 ^ (as.length - lv as i))
  have h2 : (List.range n).map (fun i => wi as i + 2 ^ (as.length - lv as i)) = (List.range n).map (fun _ => 2 ^ as.length) :=
    List.map_congr_left (fun i _ => wi_eq as h i)
  rw [h2, sum_const, wi_sum as n hle, hw, List.length_range] at h1
  obtain ⟨q, rfl⟩ : ∃ q, n = q + 1 := ⟨n - 1, by omega⟩
  rw [show q + 1 - 1 = q from by omega, Nat.succ_mul] at h1
  omega

theorem count_take (cs : List Nat) (h : cs.Nodup) (a i : Nat) (s : Nat) (hs : cs[i]? = some s) : (cs.take a).count s = if i < a then 1 else 0 := by
  induction cs generalizing a i with
  | nil => simp at hs
  | cons c t ih =>
    have hn := List.nodup_cons.1 h
    cases a with
    | zero => simp
    | succ a =>
      rw [List.take_succ_cons, List.count_cons]
      cases i with
      | zero =>
        simp at hs
        subst hs
        have : (t.take a).count c = 0 := List.count_eq_zero.2 (fun hm => hn.1 (List.mem_of_mem_take hm))
        rw [this]; simp
      | succ i =>
        simp at hs
        have hne : ¬ c = s := fun e => hn.1 (by rw [e]; exact List.mem_of_getElem? hs)
        rw [ih hn.2 a i hs]
        by_cases hia : i < a <;> simp [hne, hia]
theorem count_ranks (cs : List Nat) (h : cs.Nodup) (as : List Nat) (i s : Nat) (hs : cs[i]? = some s) : (as.flatMap fun a => cs.take a).count s = lv as i := by
  induction as with
  | nil => simp [lv]
  | cons a as ih => rw [List.flatMap_cons, List.count_append, ih, count_take cs h a i s hs, lv_cons]; omega

/-! ### The lengths of a selection -/
def lensS (m : Nat) (sel : List Nat) : List Int := (List.range m).map fun s => ((sel.count s : Nat) : Int)
theorem lensS_length (m : Nat) (sel : List Nat) : (lensS m sel).length = m := by simp [lensS]
theorem lensS_ln (m : Nat) (sel : List Nat) (s : Nat) (h : s < m) : ln (lensS m sel) s = ((sel.count s : Nat) : Int) := by simp [ln, lensS, h]
theorem sumTo_null (m : Nat) : sumTo m (fun _ => 0) = 0 := by
  induction m with
  | zero => rfl
  | succ m ih => rw [sumTo_succ, ih]; rfl
theorem sumTo_count (m : Nat) (f : Nat → Int) (l : List Nat) (h : ∀ x ∈ l, x < m) : sumTo m (fun s => f s * ((l.count s : Nat) : Int)) = (l.map f).sum := by
  induction l with
  | nil =>
    have : sumTo m (fun s => f s * ((([] : List Nat).count s : Nat) : Int)) = sumTo m (fun _ => 0) := sumTo_congr fun s _ => by simp
    rw [this, sumTo_null]; rfl
  | cons x l ih =>
    have ih := ih (fun y hy => h y (by simp [hy]))
    have e := sumTo_one (n := m) (f := fun s => f s * ((l.count s : Nat) : Int)) (g := fun s => f s * (((x :: l).count s : Nat) : Int)) x (h x (by simp)) (by
      intro t _ ht
      have : ¬ x = t := fun e => ht e.symm
      simp [this])
    rw [e, ih]
    simp [Int.mul_add]; omega
theorem sumTo_nodup (m : Nat) (g : Nat → Int) (cs : List Nat) (h : cs.Nodup) (hlt : ∀ x ∈ cs, x < m) (h0 : ∀ s, s < m → s ∉ cs → g s = 0) : sumTo m g = (cs.map g).sum := by
  have e := sumTo_count m g cs hlt
  rw [← e]
  refine sumTo_congr fun s hs => ?_
  by_cases hm : s ∈ cs
  · obtain ⟨i, hi⟩ := List.getElem?_of_mem hm
    have h1 := count_take cs h cs.length i s hi
    rw [List.take_length, if_pos (List.getElem?_eq_some_iff.1 hi).1] at h1
    rw [h1]; simp
  · rw [h0 s hs hm]; simp

/-- What package-merge takes. -/
def sel (f : Nat → Int) (cs : List Nat) (k : Nat) : List Nat := ((pm (cs.map (coin f)) k).take (2 * cs.length - 2)).flatMap Pk.syms
def bestS (f : Nat → Int) (m : Nat) (cs : List Nat) (k : Nat) : List Int := lensS m (sel f cs k)
def leastS (f : Nat → Int) (cs : List Nat) (k : Nat) : Int := tot ((pm (cs.map (coin f)) k).take (2 * cs.length - 2))
def rks (f : Nat → Int) (cs : List Nat) (k : Nat) : List Nat := occ (cs.map (coin f)) k (2 * cs.length - 2)

structure Coins (f : Nat → Int) (m : Nat) (cs : List Nat) (k : Nat) : Prop where
  nodup : cs.Nodup
  lt : ∀ s ∈ cs, s < m
  nn : ∀ s ∈ cs, 0 ≤ f s
  sorted : Sorted f cs
  two : 2 ≤ cs.length
  room : cs.length ≤ 2 ^ (k + 1)
variable {f : Nat → Int} {m : Nat} {cs : List Nat} {k : Nat}
theorem Coins.le (h : Coins f m cs k) : 2 * cs.length - 2 ≤ (pm (cs.map (coin f)) k).length := by
  have := pm_room (cs.map (coin f)) k 2 (by rw [List.length_map, Nat.mul_comm, ← Nat.pow_succ]; exact h.room)
  rw [List.length_map] at this
  omega
theorem Coins.up (h : Coins f m cs k) : Up (cs.map (coin f)) := coins_up f cs h.sorted
theorem Coins.nonneg (h : Coins f m cs k) : ∀ x ∈ cs.map (coin f), 0 ≤ x.sum := by
  intro x hx
  obtain ⟨s, hs, rfl⟩ := List.mem_map.1 hx
  exact h.nn s hs
theorem sel_perm (h : Coins f m cs k) : (sel f cs k).Perm ((rks f cs k).flatMap fun a => cs.take a) := by
  have := occ_syms (cs.map (coin f)) k _ h.le
  simp only [coins_take] at this
  exact this
theorem Coins.desc (h : Coins f m cs k) : (rks f cs k).Pairwise (fun a b => b ≤ a) := occ_desc _ h.up h.nonneg k _ h.le
theorem Coins.occle (h : Coins f m cs k) : ∀ a ∈ rks f cs k, a ≤ cs.length := by
  have := occ_le _ k _ h.le
  rw [List.length_map] at this
  exact this
theorem Coins.all (h : Coins f m cs k) : cs.length ∈ rks f cs k := by
  have := occ_all (cs.map (coin f)) (by simpa using h.two) k _ h.le (by simp)
  rw [List.length_map] at this
  exact this
theorem rks_length : (rks f cs k).length = k + 1 := occ_length _ _ _
theorem best_rank (h : Coins f m cs k) (i s : Nat) (hs : cs[i]? = some s) : ln (bestS f m cs k) s = ((lv (rks f cs k) i : Nat) : Int) := by
  unfold bestS
  rw [lensS_ln _ _ _ (h.lt s (List.mem_of_getElem? hs)), (sel_perm h).count_eq, count_ranks cs h.nodup _ i s hs]
theorem best_none (h : Coins f m cs k) (s : Nat) (hm : s < m) (hs : s ∉ cs) : ln (bestS f m cs k) s = 0 := by
  unfold bestS
  rw [lensS_ln _ _ _ hm, (sel_perm h).count_eq, List.count_eq_zero.2]; rfl
  intro hc
  obtain ⟨a, _, ha⟩ := List.mem_flatMap.1 hc
  exact hs (List.mem_of_mem_take ha)
theorem lv_pos (h : Coins f m cs k) (i : Nat) (hi : i < cs.length) : 1 ≤ lv (rks f cs k) i := by
  unfold lv
  exact List.countP_pos_iff.2 ⟨_, h.all, by simpa using hi⟩
theorem best_bounds (h : Coins f m cs k) (s : Nat) (hs : s ∈ cs) : 1 ≤ ln (bestS f m cs k) s ∧ ln (bestS f m cs k) s ≤ k + 1 := by
  obtain ⟨i, hi⟩ := List.getElem?_of_mem hs
  rw [best_rank h i s hi]
  have h1 := lv_pos h i (List.getElem?_eq_some_iff.1 hi).1
  have h2 := lv_le (rks f cs k) i
  rw [rks_length] at h2
  omega
theorem best_order (h : Coins f m cs k) (s t : Nat) (hs : s ∈ cs) (ht : t ∈ cs) (hlt : f t < f s) : ln (bestS f m cs k) s ≤ ln (bestS f m cs k) t := by
  obtain ⟨i, hi⟩ := List.getElem?_of_mem hs
  obtain ⟨j, hj⟩ := List.getElem?_of_mem ht
  rw [best_rank h i s hi, best_rank h j t hj]
  have hij : j ≤ i := by
    refine Nat.le_of_not_lt fun hlt2 => ?_
    obtain ⟨hi1, rfl⟩ := List.getElem?_eq_some_iff.1 hi
    obtain ⟨hj1, rfl⟩ := List.getElem?_eq_some_iff.1 hj
    have := List.pairwise_iff_getElem.1 h.sorted i j hi1 hj1 hlt2
    omega
  have := lv_mono (rks f cs k) hij
  omega
theorem sum_cast (l : List Nat) (g : Nat → Nat) (c : Int) (e : Nat → Int) (h : ∀ x ∈ l, e x = c * ((g x : Nat) : Int)) : (l.map e).sum = c * (((l.map g).sum : Nat) : Int) := by
  induction l with
  | nil => simp
  | cons x l ih =>
    have ih := ih (fun y hy => h y (by simp [hy]))
    simp only [List.map_cons, List.sum_cons, ih, h x (by simp)]
    push_cast
    rw [Int.mul_add]
theorem best_kraft (h : Coins f m cs k) (hk : k + 1 ≤ 15) : kraft (bestS f m cs k) = 32768 := by
  have hl : (bestS f m cs k).length = m := lensS_length _ _
  unfold kraft
  rw [hl, sumTo_nodup m _ cs h.nodup h.lt (fun s hs hn => by rw [best_none h s hs hn]; rfl)]
  have e1 : cs.map (fun t => wgt (ln (bestS f m cs k) t)) = (List.range cs.length).map (fun i => wgt ((lv (rks f cs k) i : Nat) : Int)) := by
    apply List.ext_getElem?
    intro i
    rw [List.getElem?_map, List.getElem?_map]
    by_cases hi : i < cs.length
    · rw [List.getElem?_range hi, List.getElem?_eq_getElem hi]
      simp only [Option.map_some]
      rw [best_rank h i _ (List.getElem?_eq_getElem hi)]
    · rw [List.getElem?_eq_none (by omega), List.getElem?_eq_none (by simp; omega)]; rfl
  rw [e1, sum_cast (List.range cs.length) (fun i => 2 ^ ((rks f cs k).length - lv (rks f cs k) i)) (2 ^ (15 - (k + 1))), ranks_sum _ _ h.desc h.occle (by have := h.two; omega), rks_length]
  · push_cast
    rw [← Int.pow_add, show 14 - k + (k + 1) = 15 from by omega]; rfl
  · unfold rks
    rw [occ_wd _ _ _ h.le, occ_length, Nat.pow_succ, Nat.mul_comm (2 ^ k) 2, ← Nat.mul_assoc]
    congr 1
    omega
  · intro i hi
    have h1 := lv_pos h i (by simpa using hi)
    have h2 := lv_le (rks f cs k) i
    rw [rks_length] at h2 ⊢
    unfold wgt
    rw [if_pos (by omega), Int.toNat_natCast]
    push_cast
    rw [← Int.pow_add]
    congr 1
    omega
theorem best_total (h : Coins f m cs k) : sumTo m (fun s => f s * ln (bestS f m cs k) s) = leastS f cs k := by
  have e1 : sumTo m (fun s => f s * ln (bestS f m cs k) s) = sumTo m (fun s => f s * (((sel f cs k).count s : Nat) : Int)) :=
    sumTo_congr fun s hs => by unfold bestS; rw [lensS_ln _ _ _ hs]
  have hp := sel_perm h
  rw [e1, sumTo_count m f _ (by
    intro x hx
    obtain ⟨a, _, ha⟩ := List.mem_flatMap.1 (hp.mem_iff.1 hx)
    exact h.lt x (List.mem_of_mem_take ha))]
  have e2 : ((sel f cs k).map f).sum = (((rks f cs k).flatMap fun a => cs.take a).map f).sum := by
    have := hp.map f
    generalize (sel f cs k).map f = a at *
    generalize ((rks f cs k).flatMap fun a => cs.take a).map f = b at *
    clear e1 hp
    induction this with
    | nil => rfl
    | cons x _ ih => simp [ih]
    | swap x y l => simp; omega
    | trans _ _ ih1 ih2 => rw [ih1, ih2]
  rw [e2]
  unfold leastS
  rw [occ_tot _ _ _ h.le]
  have : occ (cs.map (coin f)) k (2 * cs.length - 2) = rks f cs k := rfl
  rw [this]
  induction rks f cs k with
  | nil => rfl
  | cons a as ih =>
    rw [List.flatMap_cons, List.map_append, List.sum_append, ih, List.map_cons, List.sum_cons, ← List.map_take, coins_tot]
end Go.Proofs.Ytbljoihnjhllhaa.Sz

/- Plain theory of lengths that cost least: more room, equal counts, sums alone. No program in sight. -/
namespace Go.Proofs.Ytbljoihnjhllhaa.Sz
open Srt

/-! ### More room costs no more -/
theorem tot_take_succ (l : List Pk) (a : Nat) (x : Pk) (h : l[a]? = some x) : tot (l.take (a + 1)) = tot (l.take a) + x.sum := by
  rw [List.take_add_one, h, tot_append]; simp [tot]
theorem tot_take_last (l : List Pk) (a : Nat) (c : Int) (ha : a < l.length) (h : ∀ x ∈ l, c ≤ x.sum) : tot (l.take a) + c ≤ tot (l.take (a + 1)) := by
  rw [tot_take_succ l a _ (List.getElem?_eq_getElem ha)]
  have := h _ (List.getElem_mem ha)
  omega
theorem mrg_low : ∀ (n : Nat) (p q : List Pk), Up p → Up q → ∀ a b, a ≤ p.length → b ≤ q.length → a + b = n → tot ((mrg p q).take n) ≤ tot (p.take a) + tot (q.take b)
  | 0, p, q, _, _ => by
    intro a b _ _ h
    obtain ⟨rfl, rfl⟩ : a = 0 ∧ b = 0 := by omega
    simp [tot]
  | n + 1, [], q, _, _ => by
    intro a b ha _ h
    have ha : a = 0 := by simpa using ha
    subst ha
    rw [mrg_nil, show b = n + 1 from by omega]
    simp [tot]
  | n + 1, x :: p, [], _, _ => by
    intro a b _ hb h
    have hb : b = 0 := by simpa using hb
    subst hb
    rw [mrg_nil', show a = n + 1 from by omega]
    simp [tot]
  | n + 1, x :: p, y :: q, hp, hq => by
    intro a b ha hb h
    have hp' := List.pairwise_cons.1 hp
    have hq' := List.pairwise_cons.1 hq
    rw [mrg_cons]
    have tc : ∀ (z : Pk) (l : List Pk), tot (z :: l) = z.sum + tot l := fun z l => by simp [tot]
    have t0 : tot [] = 0 := rfl
    by_cases hxy : x.sum ≤ y.sum
    · rw [if_pos hxy, List.take_succ_cons, tc]
      cases a with
      | zero =>
        obtain ⟨b', rfl⟩ : ∃ b', b = b' + 1 := ⟨b - 1, by omega⟩
        have ih := mrg_low n p (y :: q) hp'.2 hq 0 b' (by omega) (by omega) (by omega)
        have h1 := tot_take_last (y :: q) b' x.sum (by omega) (by
          intro z hz
          rcases List.mem_cons.1 hz with rfl | h2
          · exact hxy
          · have := hq'.1 z h2; omega)
        simp only [List.take_zero, t0] at ih ⊢
        omega
      | succ a =>
        have ih := mrg_low n p (y :: q) hp'.2 hq a b (by simp at ha; exact ha) hb (by omega)
        rw [List.take_succ_cons, tc]; omega
    · rw [if_neg hxy, List.take_succ_cons, tc]
      cases b with
      | zero =>
        obtain ⟨a', rfl⟩ : ∃ a', a = a' + 1 := ⟨a - 1, by omega⟩
        have ih := mrg_low n (x :: p) q hp hq'.2 a' 0 (by omega) (by omega) (by omega)
        have h1 := tot_take_last (x :: p) a' y.sum (by omega) (by
          intro z hz
          rcases List.mem_cons.1 hz with rfl | h2
          · omega
          · have := hp'.1 z h2; omega)
        simp only [List.take_zero, t0] at ih ⊢
        omega
      | succ b =>
        have ih := mrg_low n (x :: p) q hp hq'.2 a b ha (by simp at hb; exact hb) (by omega)
        rw [List.take_succ_cons, tc]; omega
theorem pm_low (C : List Pk) (hu : Up C) (k a b : Nat) (ha : a ≤ C.length) (hb : 2 * b ≤ (pm C k).length) : tot ((pm C (k + 1)).take (a + b)) ≤ tot (C.take a) + tot ((pm C k).take (2 * b)) := by
  have := mrg_low (a + b) C (pairUp (pm C k)) hu (pairUp_up _ (pm_up C hu k)) a b ha (by rw [pairUp_length]; omega) rfl
  rw [pairUp_tot _ _ hb] at this
  exact this
theorem pm_more (C : List Pk) : ∀ k, (pm C k).length ≤ (pm C (k + 1)).length
  | 0 => by rw [pm_length]; show C.length ≤ _; omega
  | k + 1 => by have := pm_more C k; rw [pm_length, pm_length C (k + 1)]; omega
theorem pm_wide (C : List Pk) (hu : Up C) : ∀ k m, m ≤ (pm C k).length → tot ((pm C (k + 1)).take m) ≤ tot ((pm C k).take m)
  | 0, m, h => by
    have := pm_low C hu 0 m 0 h (by omega)
    simp [tot] at this ⊢
    exact this
  | k + 1, m, h => by
    obtain ⟨h1, h2, h3, h4⟩ := occ_step C k m h
    have ih := pm_wide C hu k _ h3
    have hl := pm_low C hu (k + 1) (cut C (pairUp (pm C k)) m) (m - cut C (pairUp (pm C k)) m) h1 (Nat.le_trans h3 (pm_more C k))
    rw [show cut C (pairUp (pm C k)) m + (m - cut C (pairUp (pm C k)) m) = m from by omega] at hl
    rw [tot_perm h4, tot_append, pairUp_tot _ _ h3]
    omega
theorem tot_take_le (C : List Pk) (hn : ∀ x ∈ C, 0 ≤ x.sum) (a : Nat) : tot (C.take a) ≤ tot C := by
  have : tot C = tot (C.take a) + tot (C.drop a) := by rw [← tot_append, List.take_append_drop]
  have h2 : ∀ l : List Pk, (∀ x ∈ l, 0 ≤ x.sum) → 0 ≤ tot l := by
    intro l
    induction l with
    | nil => intro _; simp [tot]
    | cons x l ih => intro h; have := h x (by simp); have := ih (fun y hy => h y (by simp [hy])); simp [tot] at this ⊢; omega
  have := h2 (C.drop a) (fun x hx => hn x (List.mem_of_mem_drop hx))
  omega
theorem tot_nonneg (C : List Pk) (hn : ∀ x ∈ C, 0 ≤ x.sum) : 0 ≤ tot C := by
  have := tot_take_le C hn 0
  simpa [tot] using this
theorem pm_cheap (C : List Pk) (hu : Up C) (hn : ∀ x ∈ C, 0 ≤ x.sum) : ∀ (j k m e : Nat), j ≤ k → m ≤ (pm C k).length → m + e ≤ 2 * C.length → C.length < e * 2 ^ j → tot ((pm C k).take m) ≤ (j + 1 : Nat) * tot C
  | j, k, m, e, hj, hm, he, hp => by
    have h0 := tot_nonneg C hn
    have hT : ∀ q : Nat, tot C ≤ (q + 1 : Nat) * tot C := fun q => by
      have := Int.mul_le_mul_of_nonneg_right (show (1 : Int) ≤ (q + 1 : Nat) from by omega) h0
      rwa [Int.one_mul] at this
    by_cases hlt : m ≤ C.length
    · refine Int.le_trans ?_ (hT j)
      cases k with
      | zero => exact tot_take_le C hn m
      | succ k =>
        have := pm_low C hu k m 0 hlt (by omega)
        simp [tot] at this
        have h2 := tot_take_le C hn m
        simp [tot] at h2 ⊢
        omega
    · cases j with
      | zero => simp at hp; omega
      | succ j =>
        obtain ⟨k, rfl⟩ : ∃ k', k = k' + 1 := ⟨k - 1, by omega⟩
        rw [pm_length] at hm
        have ih := pm_cheap C hu hn j k (2 * (m - C.length)) (2 * e) (by omega) (by omega) (by omega) (by rw [Nat.pow_succ, Nat.mul_comm (2 ^ j) 2, ← Nat.mul_assoc, Nat.mul_comm e 2] at hp; exact hp)
        have hl := pm_low C hu k C.length (m - C.length) (Nat.le_refl _) (by omega)
        rw [show C.length + (m - C.length) = m from by omega, List.take_length] at hl
        have e1 : ((j + 1 + 1 : Nat) : Int) * tot C = tot C + ((j + 1 : Nat) : Int) * tot C := by
          rw [show ((j + 1 + 1 : Nat) : Int) = 1 + ((j + 1 : Nat) : Int) from by omega, Int.add_mul, Int.one_mul]
        rw [e1]
        omega
variable {f : Nat → Int} {m : Nat} {cs : List Nat} {k : Nat}
theorem least_wide (h : Coins f m cs k) : leastS f cs (k + 1) ≤ leastS f cs k := pm_wide _ h.up k _ h.le
theorem least_cheap (h : Coins f m cs k) (hk : 5 ≤ k) (hn : cs.length < 64) : leastS f cs k ≤ 6 * (cs.map f).sum := by
  have := pm_cheap (cs.map (coin f)) h.up h.nonneg 5 k (2 * cs.length - 2) 2 hk h.le (by rw [List.length_map]; have := h.two; omega) (by rw [List.length_map]; omega)
  rw [coins_tot] at this
  exact this
theorem Coins.wider (h : Coins f m cs k) : Coins f m cs (k + 1) := ⟨h.nodup, h.lt, h.nn, h.sorted, h.two, Nat.le_trans h.room (Nat.pow_le_pow_right (by decide) (by omega))⟩

/-! ### Equal counts -/
theorem cut_flat (w : Int) : ∀ (n : Nat) (p q : List Pk), (∀ x ∈ p, x.sum = w) → (∀ y ∈ q, w ≤ y.sum) → cut p q n = min n p.length
  | 0, p, q, _, _ => by simp [cut]
  | n + 1, [], q, _, _ => by simp [cut]
  | n + 1, a :: p, [], hp, hq => by
    simp only [cut, List.length_cons]
    rw [cut_flat w n p [] (fun x hx => hp x (by simp [hx])) hq]; omega
  | n + 1, a :: p, b :: q, hp, hq => by
    have h1 := hp a (by simp)
    have h2 := hq b (by simp)
    simp only [cut, List.length_cons]
    rw [if_pos (by omega), cut_flat w n p (b :: q) (fun x hx => hp x (by simp [hx])) hq]; omega
theorem pm_ge (C : List Pk) (w : Int) (h0 : 0 ≤ w) (h : ∀ x ∈ C, x.sum = w) : ∀ k, ∀ x ∈ pm C k, w ≤ x.sum
  | 0 => fun x hx => by have := h x hx; omega
  | k + 1 => fun x hx => by
    rcases mrg_mem hx with h1 | h1
    · have := h x h1; omega
    · obtain ⟨a, b, ha, hb, e⟩ := pairUp_mem _ x h1
      have := pm_ge C w h0 h k a ha; have := pm_ge C w h0 h k b hb; omega
theorem occ_flat (C : List Pk) (w : Int) (h0 : 0 ≤ w) (h : ∀ x ∈ C, x.sum = w) (bits : Nat) (hn : C.length = 2 ^ bits) (i : Nat) (hi : i < C.length) :
    ∀ (k j : Nat), j ≤ bits → bits ≤ k + 1 + j → lv (occ C k (2 * C.length - 2 ^ (j + 1))) i = bits - j
  | 0, j, hj, hk => by
    simp only [occ, lv_cons]
    rw [show lv [] i = 0 from rfl]
    by_cases e : j = bits
    · subst e
      rw [hn, Nat.pow_succ]; split <;> omega
    · rw [show j + 1 = bits from by omega, ← hn, if_pos (by omega)]; omega
  | k + 1, j, hj, hk => by
    have hg : ∀ y ∈ pairUp (pm C k), w ≤ y.sum := fun y hy => by
      obtain ⟨a, b, ha, hb, e⟩ := pairUp_mem _ y hy
      have := pm_ge C w h0 h k a ha; have := pm_ge C w h0 h k b hb; omega
    simp only [occ, lv_cons]
    rw [cut_flat w _ C _ h hg]
    by_cases e : j = bits
    · subst e
      have e2 : 2 * C.length - 2 ^ (j + 1) = 0 := by rw [hn, Nat.pow_succ]; omega
      rw [e2]
      have := occ_flat C w h0 h j hn i hi k j (Nat.le_refl _) (by omega)
      rw [e2] at this
      simp [this]
    · have hle : 2 ^ (j + 1) ≤ C.length := by rw [hn]; exact Nat.pow_le_pow_right (by decide) (by omega)
      rw [show min (2 * C.length - 2 ^ (j + 1)) C.length = C.length from by omega, if_pos hi]
      have := occ_flat C w h0 h bits hn i hi k (j + 1) (by omega) (by omega)
      rw [show 2 * (2 * C.length - 2 ^ (j + 1) - C.length) = 2 * C.length - 2 ^ (j + 1 + 1) from by rw [Nat.pow_succ 2 (j + 1)]; omega, this]
      omega
theorem best_flat (h : Coins f m cs k) (w : Int) (h0 : 0 ≤ w) (hw : ∀ s ∈ cs, f s = w) (bits : Nat) (hn : cs.length = 2 ^ bits) (hk : bits ≤ k + 1) (s : Nat) (hs : s ∈ cs) : ln (bestS f m cs k) s = bits := by
  obtain ⟨i, hi⟩ := List.getElem?_of_mem hs
  rw [best_rank h i s hi]
  have := occ_flat (cs.map (coin f)) w h0 (fun x hx => by obtain ⟨t, ht, rfl⟩ := List.mem_map.1 hx; exact hw t ht) bits (by rw [List.length_map]; exact hn) i (by rw [List.length_map]; exact (List.getElem?_eq_some_iff.1 hi).1) k 0 (by omega) (by omega)
  rw [List.length_map] at this
  unfold rks
  rw [show 2 * cs.length - 2 = 2 * cs.length - 2 ^ (0 + 1) from rfl, this]; omega

/-! ### Sums alone -/
def pairSum : List Int → List Int
  | a :: b :: t => (a + b) :: pairSum t
  | _ => []
theorem pairSum_length : ∀ l : List Int, (pairSum l).length = l.length / 2
  | [] => rfl
  | [_] => by simp [pairSum]
  | a :: b :: t => by simp [pairSum, pairSum_length t]; omega
theorem pairSum_map : ∀ l : List Pk, pairSum (l.map Pk.sum) = (pairUp l).map Pk.sum
  | [] => rfl
  | [_] => by simp [pairSum, pairUp]
  | a :: b :: t => by simp [pairSum, pairUp, pairSum_map t]
theorem up_unique {a b : List Int} (ha : a.Pairwise (· ≤ ·)) (hb : b.Pairwise (· ≤ ·)) (h : a.Perm b) : a = b := by
  refine sorted_unique (key := fun x : Int => x) ha hb fun k => ?_
  have e : ∀ l : List Int, l.filter (fun x => x == k) = List.replicate (l.count k) k := fun l => by
    rw [List.count_eq_length_filter]
    exact (List.eq_replicate_iff.2 ⟨rfl, fun x hx => by simpa using (List.mem_filter.1 hx).2⟩)
  rw [e a, e b, h.count_eq]
/-- The reference's rows are the sums of the lists. -/
theorem row_next (C L : List Pk) (hC : Up C) (hL : Up L) (r : List Int) (hr : r.Pairwise (· ≤ ·)) (hp : r.Perm (C.map Pk.sum ++ pairSum (L.map Pk.sum))) : r = (mrg C (pairUp L)).map Pk.sum := by
  refine up_unique hr (List.pairwise_map.2 (mrg_up _ _ hC (pairUp_up _ hL))) ?_
  rw [pairSum_map, ← List.map_append] at hp
  exact hp.trans ((mrg_perm _ _).symm.map _)
end Go.Proofs.Ytbljoihnjhllhaa.Sz

/- What every packet of the package-merge keeps: its symbols are some, not many, and small; its sum is bounded. -/
namespace Go.Proofs.Ytbljoihnjhllhaa
open Srt
namespace Sz

structure Fine (m b : Nat) (q : Pk) : Prop where
  some_ : 1 ≤ q.syms.length
  few : q.syms.length ≤ 2 ^ b
  lo : 0 ≤ q.sum
  hi : q.sum ≤ 4294967296 * 2 ^ b
  lt : ∀ s ∈ q.syms, s < m
theorem Fine.up {m b : Nat} {q : Pk} (h : Fine m b q) : Fine m (b + 1) q :=
  ⟨h.some_, by have := h.few; rw [Nat.pow_succ]; omega, h.lo, by have := h.hi; have : (0 : Int) < 2 ^ b := Int.pow_pos (by decide); rw [Int.pow_succ]; omega, h.lt⟩
theorem Fine.two {m b : Nat} {p q : Pk} (h : Fine m b p) (k : Fine m b q) : Fine m (b + 1) ⟨p.sum + q.sum, p.syms ++ q.syms⟩ :=
  ⟨by have := h.some_; simp; omega, by have := h.few; have := k.few; rw [Nat.pow_succ]; simp; omega, by have := h.lo; have := k.lo; show 0 ≤ p.sum + q.sum; omega,
    by have := h.hi; have := k.hi; show p.sum + q.sum ≤ _; rw [Int.pow_succ]; omega, fun s hs => by rcases List.mem_append.1 hs with h1 | h1; exact h.lt s h1; exact k.lt s h1⟩
theorem pairUp_fine {m b : Nat} : ∀ l : List Pk, (∀ q ∈ l, Fine m b q) → ∀ q ∈ pairUp l, Fine m (b + 1) q
  | [], _, q, hq => by simp [pairUp] at hq
  | [_], _, q, hq => by simp [pairUp] at hq
  | x :: y :: t, h, q, hq => by
    rw [pairUp, List.mem_cons] at hq
    rcases hq with rfl | hq
    · exact (h x (by simp)).two (h y (by simp))
    · exact pairUp_fine t (fun q hq => h q (by simp [hq])) q hq
theorem pm_fine {m : Nat} (C : List Pk) (h : ∀ q ∈ C, Fine m 0 q) : ∀ k, ∀ q ∈ pm C k, Fine m k q
  | 0, q, hq => h q hq
  | k + 1, q, hq => by
    rw [pm_succ] at hq
    rcases mrg_mem hq with hq | hq
    · have h0 : ∀ b, Fine m b q := fun b => by induction b with | zero => exact h q hq | succ b ih => exact ih.up
      exact h0 _
    · exact pairUp_fine _ (pm_fine C h k) q hq
theorem coin_fine {m : Nat} {f : Nat → Int} {s : Nat} (h0 : 0 ≤ f s) (h1 : f s ≤ 4294967296) (hs : s < m) : Fine m 0 (coin f s) :=
  ⟨by simp [coin], by simp [coin], h0, by simpa [coin] using h1, fun t ht => by simp [coin] at ht; omega⟩
end Sz
end Go.Proofs.Ytbljoihnjhllhaa

/- Plain theory of lengths of which one symbol, or two, have one. No program in sight. -/
namespace Go.Proofs.Ytbljoihnjhllhaa

theorem sumTo_hot {k a : Nat} {c : Int} {g : Nat → Int} (ha : a < k) (h : ∀ t, t < k → g t = if t = a then c else 0) : sumTo k g = c := by
  have e := sumTo_one (n := k) (f := fun _ => 0) (g := g) a ha (fun t ht hne => by rw [h t ht, if_neg hne])
  have z : ∀ n, sumTo n (fun _ => 0) = 0 := fun n => by induction n with | zero => rfl | succ n ih => rw [sumTo_succ, ih]; rfl
  rw [e, z, h a ha, if_pos rfl]; omega
theorem sumTo_hot2 {k a b : Nat} {c : Int} {g : Nat → Int} (ha : a < k) (hb : b < k) (hab : a ≠ b) (h : ∀ t, t < k → g t = if t = a ∨ t = b then c else 0) : sumTo k g = 2 * c := by
  have e := sumTo_one (n := k) (f := fun t => if t = a then c else 0) (g := g) b hb (fun t ht hne => by
    rw [h t ht]
    by_cases e : t = a
    · rw [if_pos e, if_pos (.inl e)]
    · rw [if_neg e, if_neg (fun h => h.elim e hne)])
  have z := sumTo_hot (k := k) (a := a) (c := c) (g := fun t => if t = a then c else 0) ha (fun _ _ => rfl)
  rw [e, z, h b hb, if_pos (.inr rfl), if_neg (fun h => hab h.symm)]; omega
theorem mn_sum (ls : List Int) (k : Nat) : (mnUp ls k : Int) = sumTo k (fun t => if 0 < ln ls t then 1 else 0) := by
  induction k with
  | zero => simp [mnUp, sumTo]
  | succ k ih => rw [mnUp_succ, sumTo_succ, ← ih]; split <;> omega
/-- Lengths 1 at a alone. -/
def Hot (k a : Nat) (ls : List Int) : Prop := ls.length = k ∧ a < k ∧ ∀ t, t < k → ln ls t = if t = a then 1 else 0
def Hot2 (k a b : Nat) (ls : List Int) : Prop := ls.length = k ∧ a < k ∧ b < k ∧ a ≠ b ∧ ∀ t, t < k → ln ls t = if t = a ∨ t = b then 1 else 0
theorem no_bad {ls : List Int} (h : ∀ t, t < ls.length → ln ls t = 0 ∨ ln ls t = 1) : ¬ ls.any badLen = true := by
  intro hc
  rw [List.any_eq_true] at hc
  obtain ⟨x, hx, hb⟩ := hc
  obtain ⟨t, ht, rfl⟩ := List.getElem_of_mem hx
  have := h t ht
  rw [ln_get ht] at this
  unfold badLen at hb
  rcases this with e | e <;> rw [e] at hb <;> simp at hb
theorem Hot.check {k a : Nat} {ls : List Int} (h : Hot k a ls) : checkS ls = 0 := by
  obtain ⟨hl, ha, hh⟩ := h
  have hm : many ls = 1 := by
    have := mn_sum ls k
    rw [sumTo_hot (a := a) (c := 1) ha (fun t ht => by rw [hh t ht]; split <;> simp)] at this
    unfold many; rw [hl]; omega
  unfold checkS
  rw [if_neg (no_bad (fun t ht => by rw [hh t (by omega)]; split <;> simp)), if_pos (.inl hm)]
theorem Hot2.check {k a b : Nat} {ls : List Int} (h : Hot2 k a b ls) : checkS ls = 0 := by
  obtain ⟨hl, ha, hb, hab, hh⟩ := h
  have hm : kraft ls = 32768 := by
    unfold kraft
    rw [hl, sumTo_hot2 (a := a) (b := b) (c := 16384) ha hb hab (fun t ht => by rw [hh t ht]; split <;> rfl)]
    rfl
  unfold checkS
  rw [if_neg (no_bad (fun t ht => by rw [hh t (by omega)]; split <;> simp)), if_pos (.inr hm)]
theorem Hot.sum {k a : Nat} {ls : List Int} (h : Hot k a ls) : sumTo k (ln ls) = 1 := sumTo_hot h.2.1 h.2.2
theorem Hot2.sum {k a b : Nat} {ls : List Int} (h : Hot2 k a b ls) : sumTo k (ln ls) = 2 := by
  have := sumTo_hot2 h.2.1 h.2.2.1 h.2.2.2.1 h.2.2.2.2
  omega
theorem hot_set (k a : Nat) (ha : a < k) : Hot k a ((List.replicate k (0 : Int)).set a 1) := by
  refine ⟨by simp, ha, fun t ht => ?_⟩
  unfold ln
  rw [List.getElem?_set]
  by_cases e : a = t
  · subst e; simp [ha]
  · rw [if_neg e, if_neg (fun h => e h.symm)]; simp [ht]
theorem hot2_set (k a b : Nat) (ha : a < k) (hb : b < k) (hab : a ≠ b) : Hot2 k a b (((List.replicate k (0 : Int)).set a 1).set b 1) := by
  have h := hot_set k a ha
  refine ⟨by simp, ha, hb, hab, fun t ht => ?_⟩
  have := h.2.2 t ht
  unfold ln at this ⊢
  rw [List.getElem?_set]
  by_cases e : b = t
  · subst e; simp [hb]
  · rw [if_neg e, this]
    by_cases e2 : t = a
    · rw [if_pos e2, if_pos (.inl e2)]
    · rw [if_neg e2, if_neg (fun h => h.elim e2 (fun h => e h.symm))]
end Go.Proofs.Ytbljoihnjhllhaa
