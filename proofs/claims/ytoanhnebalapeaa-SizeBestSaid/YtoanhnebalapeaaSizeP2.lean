/- Plain theory of lengths that cost least: what the lengths are. No program in sight. -/
import Derived.Test.YtoanhnebalapeaaSizeP
namespace Go.Proofs.Ytoanhnebalapeaa.Sz
open Srt

def coin (f : Nat → Int) (s : Nat) : Pk := ⟨f s, [s]⟩
theorem coins_take (f : Nat → Int) (cs : List Nat) (a : Nat) : ((cs.map (coin f)).take a).flatMap Pk.syms = cs.take a := by
  rw [← List.map_take]
  induction cs.take a with
  | nil => rfl
  | cons s t ih => simp [coin] at ih ⊢; exact ih
theorem coins_tot (f : Nat → Int) (cs : List Nat) : tot (cs.map (coin f)) = (cs.map f).sum := by
  unfold tot
  rw [List.map_map]; rfl
theorem coins_up (f : Nat → Int) (cs : List Nat) (h : Sorted f cs) : Up (cs.map (coin f)) := List.pairwise_map.2 h

/-! ### How many levels take coin i -/
def lv (as : List Nat) (i : Nat) : Nat := as.countP (fun a => decide (i < a))
def wi : List Nat → Nat → Nat
  | [], _ => 0
  | a :: t, i => (if i < a then 2 ^ t.length else 0) + wi t i
theorem lv_le (as : List Nat) (i : Nat) : lv as i ≤ as.length := List.countP_le_length
theorem lv_cons (a : Nat) (as : List Nat) (i : Nat) : lv (a :: as) i = lv as i + if i < a then 1 else 0 := by
  unfold lv; rw [List.countP_cons]; simp
theorem lv_mono (as : List Nat) {i j : Nat} (h : i ≤ j) : lv as j ≤ lv as i := by
  induction as with
  | nil => simp [lv]
  | cons a as ih => rw [lv_cons, lv_cons]; split <;> split <;> omega
theorem wi_eq (as : List Nat) (h : as.Pairwise (fun a b => b ≤ a)) (i : Nat) : wi as i + 2 ^ (as.length - lv as i) = 2 ^ as.length := by
  induction as with
  | nil => simp [wi, lv]
  | cons a t ih =>
    have hp := List.pairwise_cons.1 h
    have ih := ih hp.2
    rw [lv_cons]
    by_cases hi : i < a
    · have hle := lv_le t i
      simp only [wi, if_pos hi, List.length_cons]
      rw [show t.length + 1 - (lv t i + 1) = t.length - lv t i from by omega, Nat.pow_succ]
      omega
    · have h0 : lv t i = 0 := by
        unfold lv
        rw [List.countP_eq_zero]
        intro b hb
        have := hp.1 b hb
        simp; omega
      rw [h0] at ih ⊢
      simp only [wi, if_neg hi, List.length_cons]
      simp at ih ⊢
      exact ih
theorem sum_if (c a : Nat) : ∀ n, a ≤ n → ((List.range n).map (fun i => if i < a then c else 0)).sum = a * c := by
  intro n
  induction n generalizing a with
  | zero =>
    intro h
    obtain rfl : a = 0 := by omega
    simp
  | succ n ih =>
    intro h
    rw [List.range_succ, List.map_append, List.sum_append]
    by_cases e : a = n + 1
    · subst e
      have h1 : (List.range n).map (fun i => if i < n + 1 then c else 0) = (List.range n).map (fun i => if i < n then c else 0) := by
        apply List.map_congr_left
        intro i hi
        rw [List.mem_range] at hi
        rw [if_pos (by omega), if_pos hi]
      rw [h1, ih n (Nat.le_refl _)]
      simp [Nat.succ_mul]
    · rw [ih a (by omega)]
      simp; omega
theorem sum_add (l : List Nat) (f g : Nat → Nat) : (l.map (fun i => f i + g i)).sum = (l.map f).sum + (l.map g).sum := by
  induction l with
  | nil => rfl
  | cons x l ih => simp [ih]; omega
theorem sum_const (l : List Nat) (c : Nat) : (l.map (fun _ => c)).sum = l.length * c := by
  induction l with
  | nil => simp
  | cons x l ih => simp [ih, Nat.succ_mul]; omega
theorem wi_sum (as : List Nat) (n : Nat) (h : ∀ a ∈ as, a ≤ n) : ((List.range n).map (wi as)).sum = wd as := by
  induction as with
  | nil =>
    show ((List.range n).map (fun _ => 0)).sum = 0
    rw [sum_const]; simp
  | cons a t ih =>
    have : (List.range n).map (wi (a :: t)) = (List.range n).map (fun i => (if i < a then 2 ^ t.length else 0) + wi t i) := rfl
    rw [this, sum_add, sum_if _ _ _ (h a (by simp)), ih (fun b hb => h b (by simp [hb]))]
    rfl
theorem ranks_sum (as : List Nat) (n : Nat) (h : as.Pairwise (fun a b => b ≤ a)) (hle : ∀ a ∈ as, a ≤ n) (hn : 1 ≤ n) (hw : wd as = (n - 1) * 2 ^ as.length) :
    ((List.range n).map (fun i => 2 ^ (as.length - lv as i))).sum = 2 ^ as.length := by
  have h1 := sum_add (List.range n) (wi as) (fun i => 2 ^ (as.length - lv as i))
  have h2 : (List.range n).map (fun i => wi as i + 2 ^ (as.length - lv as i)) = (List.range n).map (fun _ => 2 ^ as.length) :=
    List.map_congr_left (fun i _ => wi_eq as h i)
  rw [h2, sum_const, wi_sum as n hle, hw, List.length_range] at h1
  obtain ⟨q, rfl⟩ : ∃ q, n = q + 1 := ⟨n - 1, by omega⟩
  rw [show q + 1 - 1 = q from by omega, Nat.succ_mul] at h1
  omega

theorem count_take (cs : List Nat) (h : cs.Nodup) (a i : Nat) (s : Nat) (hs : cs[i]? = some s) : (cs.take a).count s = if i < a then 1 else 0 := by
  induction cs generalizing a i with
  | nil => simp at hs
  | cons c t ih =>
    have hn := List.nodup_cons.1 h
    cases a with
    | zero => simp
    | succ a =>
      rw [List.take_succ_cons, List.count_cons]
      cases i with
      | zero =>
        simp at hs
        subst hs
        have : (t.take a).count c = 0 := List.count_eq_zero.2 (fun hm => hn.1 (List.mem_of_mem_take hm))
        rw [this]; simp
      | succ i =>
        simp at hs
        have hne : ¬ c = s := fun e => hn.1 (by rw [e]; exact List.mem_of_getElem? hs)
        rw [ih hn.2 a i hs]
        by_cases hia : i < a <;> simp [hne, hia]
theorem count_ranks (cs : List Nat) (h : cs.Nodup) (as : List Nat) (i s : Nat) (hs : cs[i]? = some s) : (as.flatMap fun a => cs.take a).count s = lv as i := by
  induction as with
  | nil => simp [lv]
  | cons a as ih => rw [List.flatMap_cons, List.count_append, ih, count_take cs h a i s hs, lv_cons]; omega

/-! ### The lengths of a selection -/
def lensS (m : Nat) (sel : List Nat) : List Int := (List.range m).map fun s => ((sel.count s : Nat) : Int)
theorem lensS_length (m : Nat) (sel : List Nat) : (lensS m sel).length = m := by simp [lensS]
theorem lensS_ln (m : Nat) (sel : List Nat) (s : Nat) (h : s < m) : ln (lensS m sel) s = ((sel.count s : Nat) : Int) := by simp [ln, lensS, h]
theorem sumTo_null (m : Nat) : sumTo m (fun _ => 0) = 0 := by
  induction m with
  | zero => rfl
  | succ m ih => rw [sumTo_succ, ih]; rfl
theorem sumTo_count (m : Nat) (f : Nat → Int) (l : List Nat) (h : ∀ x ∈ l, x < m) : sumTo m (fun s => f s * ((l.count s : Nat) : Int)) = (l.map f).sum := by
  induction l with
  | nil =>
    have : sumTo m (fun s => f s * ((([] : List Nat).count s : Nat) : Int)) = sumTo m (fun _ => 0) := sumTo_congr fun s _ => by simp
    rw [this, sumTo_null]; rfl
  | cons x l ih =>
    have ih := ih (fun y hy => h y (by simp [hy]))
    have e := sumTo_one (n := m) (f := fun s => f s * ((l.count s : Nat) : Int)) (g := fun s => f s * (((x :: l).count s : Nat) : Int)) x (h x (by simp)) (by
      intro t _ ht
      have : ¬ x = t := fun e => ht e.symm
      simp [this])
    rw [e, ih]
    simp [Int.mul_add]; omega
theorem sumTo_nodup (m : Nat) (g : Nat → Int) (cs : List Nat) (h : cs.Nodup) (hlt : ∀ x ∈ cs, x < m) (h0 : ∀ s, s < m → s ∉ cs → g s = 0) : sumTo m g = (cs.map g).sum := by
  have e := sumTo_count m g cs hlt
  rw [← e]
  refine sumTo_congr fun s hs => ?_
  by_cases hm : s ∈ cs
  · obtain ⟨i, hi⟩ := List.getElem?_of_mem hm
    have h1 := count_take cs h cs.length i s hi
    rw [List.take_length, if_pos (List.getElem?_eq_some_iff.1 hi).1] at h1
    rw [h1]; simp
  · rw [h0 s hs hm]; simp

/-- What package-merge takes. -/
def sel (f : Nat → Int) (cs : List Nat) (k : Nat) : List Nat := ((pm (cs.map (coin f)) k).take (2 * cs.length - 2)).flatMap Pk.syms
def bestS (f : Nat → Int) (m : Nat) (cs : List Nat) (k : Nat) : List Int := lensS m (sel f cs k)
def leastS (f : Nat → Int) (cs : List Nat) (k : Nat) : Int := tot ((pm (cs.map (coin f)) k).take (2 * cs.length - 2))
def rks (f : Nat → Int) (cs : List Nat) (k : Nat) : List Nat := occ (cs.map (coin f)) k (2 * cs.length - 2)

structure Coins (f : Nat → Int) (m : Nat) (cs : List Nat) (k : Nat) : Prop where
  nodup : cs.Nodup
  lt : ∀ s ∈ cs, s < m
  nn : ∀ s ∈ cs, 0 ≤ f s
  sorted : Sorted f cs
  two : 2 ≤ cs.length
  room : cs.length ≤ 2 ^ (k + 1)
variable {f : Nat → Int} {m : Nat} {cs : List Nat} {k : Nat}
theorem Coins.le (h : Coins f m cs k) : 2 * cs.length - 2 ≤ (pm (cs.map (coin f)) k).length := by
  have := pm_room (cs.map (coin f)) k 2 (by rw [List.length_map, Nat.mul_comm, ← Nat.pow_succ]; exact h.room)
  rw [List.length_map] at this
  omega
theorem Coins.up (h : Coins f m cs k) : Up (cs.map (coin f)) := coins_up f cs h.sorted
theorem Coins.nonneg (h : Coins f m cs k) : ∀ x ∈ cs.map (coin f), 0 ≤ x.sum := by
  intro x hx
  obtain ⟨s, hs, rfl⟩ := List.mem_map.1 hx
  exact h.nn s hs
theorem sel_perm (h : Coins f m cs k) : (sel f cs k).Perm ((rks f cs k).flatMap fun a => cs.take a) := by
  have := occ_syms (cs.map (coin f)) k _ h.le
  simp only [coins_take] at this
  exact this
theorem Coins.desc (h : Coins f m cs k) : (rks f cs k).Pairwise (fun a b => b ≤ a) := occ_desc _ h.up h.nonneg k _ h.le
theorem Coins.occle (h : Coins f m cs k) : ∀ a ∈ rks f cs k, a ≤ cs.length := by
  have := occ_le _ k _ h.le
  rw [List.length_map] at this
  exact this
theorem Coins.all (h : Coins f m cs k) : cs.length ∈ rks f cs k := by
  have := occ_all (cs.map (coin f)) (by simpa using h.two) k _ h.le (by simp)
  rw [List.length_map] at this
  exact this
theorem rks_length : (rks f cs k).length = k + 1 := occ_length _ _ _
theorem best_rank (h : Coins f m cs k) (i s : Nat) (hs : cs[i]? = some s) : ln (bestS f m cs k) s = ((lv (rks f cs k) i : Nat) : Int) := by
  unfold bestS
  rw [lensS_ln _ _ _ (h.lt s (List.mem_of_getElem? hs)), (sel_perm h).count_eq, count_ranks cs h.nodup _ i s hs]
theorem best_none (h : Coins f m cs k) (s : Nat) (hm : s < m) (hs : s ∉ cs) : ln (bestS f m cs k) s = 0 := by
  unfold bestS
  rw [lensS_ln _ _ _ hm, (sel_perm h).count_eq, List.count_eq_zero.2]; rfl
  intro hc
  obtain ⟨a, _, ha⟩ := List.mem_flatMap.1 hc
  exact hs (List.mem_of_mem_take ha)
theorem lv_pos (h : Coins f m cs k) (i : Nat) (hi : i < cs.length) : 1 ≤ lv (rks f cs k) i := by
  unfold lv
  exact List.countP_pos_iff.2 ⟨_, h.all, by simpa using hi⟩
theorem best_bounds (h : Coins f m cs k) (s : Nat) (hs : s ∈ cs) : 1 ≤ ln (bestS f m cs k) s ∧ ln (bestS f m cs k) s ≤ k + 1 := by
  obtain ⟨i, hi⟩ := List.getElem?_of_mem hs
  rw [best_rank h i s hi]
  have h1 := lv_pos h i (List.getElem?_eq_some_iff.1 hi).1
  have h2 := lv_le (rks f cs k) i
  rw [rks_length] at h2
  omega
theorem best_order (h : Coins f m cs k) (s t : Nat) (hs : s ∈ cs) (ht : t ∈ cs) (hlt : f t < f s) : ln (bestS f m cs k) s ≤ ln (bestS f m cs k) t := by
  obtain ⟨i, hi⟩ := List.getElem?_of_mem hs
  obtain ⟨j, hj⟩ := List.getElem?_of_mem ht
  rw [best_rank h i s hi, best_rank h j t hj]
  have hij : j ≤ i := by
    refine Nat.le_of_not_lt fun hlt2 => ?_
    obtain ⟨hi1, rfl⟩ := List.getElem?_eq_some_iff.1 hi
    obtain ⟨hj1, rfl⟩ := List.getElem?_eq_some_iff.1 hj
    have := List.pairwise_iff_getElem.1 h.sorted i j hi1 hj1 hlt2
    omega
  have := lv_mono (rks f cs k) hij
  omega
theorem sum_cast (l : List Nat) (g : Nat → Nat) (c : Int) (e : Nat → Int) (h : ∀ x ∈ l, e x = c * ((g x : Nat) : Int)) : (l.map e).sum = c * (((l.map g).sum : Nat) : Int) := by
  induction l with
  | nil => simp
  | cons x l ih =>
    have ih := ih (fun y hy => h y (by simp [hy]))
    simp only [List.map_cons, List.sum_cons, ih, h x (by simp)]
    push_cast
    rw [Int.mul_add]
theorem best_kraft (h : Coins f m cs k) (hk : k + 1 ≤ 15) : kraft (bestS f m cs k) = 32768 := by
  have hl : (bestS f m cs k).length = m := lensS_length _ _
  unfold kraft
  rw [hl, sumTo_nodup m _ cs h.nodup h.lt (fun s hs hn => by rw [best_none h s hs hn]; rfl)]
  have e1 : cs.map (fun t => wgt (ln (bestS f m cs k) t)) = (List.range cs.length).map (fun i => wgt ((lv (rks f cs k) i : Nat) : Int)) := by
    apply List.ext_getElem?
    intro i
    rw [List.getElem?_map, List.getElem?_map]
    by_cases hi : i < cs.length
    · rw [List.getElem?_range hi, List.getElem?_eq_getElem hi]
      simp only [Option.map_some]
      rw [best_rank h i _ (List.getElem?_eq_getElem hi)]
    · rw [List.getElem?_eq_none (by omega), List.getElem?_eq_none (by simp; omega)]; rfl
  rw [e1, sum_cast (List.range cs.length) (fun i => 2 ^ ((rks f cs k).length - lv (rks f cs k) i)) (2 ^ (15 - (k + 1))), ranks_sum _ _ h.desc h.occle (by have := h.two; omega), rks_length]
  · push_cast
    rw [← Int.pow_add, show 14 - k + (k + 1) = 15 from by omega]; rfl
  · unfold rks
    rw [occ_wd _ _ _ h.le, occ_length, Nat.pow_succ, Nat.mul_comm (2 ^ k) 2, ← Nat.mul_assoc]
    congr 1
    omega
  · intro i hi
    have h1 := lv_pos h i (by simpa using hi)
    have h2 := lv_le (rks f cs k) i
    rw [rks_length] at h2 ⊢
    unfold wgt
    rw [if_pos (by omega), Int.toNat_natCast]
    push_cast
    rw [← Int.pow_add]
    congr 1
    omega
theorem best_total (h : Coins f m cs k) : sumTo m (fun s => f s * ln (bestS f m cs k) s) = leastS f cs k := by
  have e1 : sumTo m (fun s => f s * ln (bestS f m cs k) s) = sumTo m (fun s => f s * (((sel f cs k).count s : Nat) : Int)) :=
    sumTo_congr fun s hs => by unfold bestS; rw [lensS_ln _ _ _ hs]
  have hp := sel_perm h
  rw [e1, sumTo_count m f _ (by
    intro x hx
    obtain ⟨a, _, ha⟩ := List.mem_flatMap.1 (hp.mem_iff.1 hx)
    exact h.lt x (List.mem_of_mem_take ha))]
  have e2 : ((sel f cs k).map f).sum = (((rks f cs k).flatMap fun a => cs.take a).map f).sum := by
    have := hp.map f
    generalize (sel f cs k).map f = a at *
    generalize ((rks f cs k).flatMap fun a => cs.take a).map f = b at *
    clear e1 hp
    induction this with
    | nil => rfl
    | cons x _ ih => simp [ih]
    | swap x y l => simp; omega
    | trans _ _ ih1 ih2 => rw [ih1, ih2]
  rw [e2]
  unfold leastS
  rw [occ_tot _ _ _ h.le]
  have : occ (cs.map (coin f)) k (2 * cs.length - 2) = rks f cs k := rfl
  rw [this]
  induction rks f cs k with
  | nil => rfl
  | cons a as ih =>
    rw [List.flatMap_cons, List.map_append, List.sum_append, ih, List.map_cons, List.sum_cons, ← List.map_take, coins_tot]
end Go.Proofs.Ytoanhnebalapeaa.Sz
