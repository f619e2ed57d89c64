/- Plain theory of stable sorting by a whole-number key: no program in sight. -/
namespace Go.Proofs.YtfeloicmkcfinaaDoor.Srt
variable {α : Type}

/-- Sorted by key. -/
def Sorted (key : α → Int) (l : List α) : Prop := l.Pairwise fun x y => key x ≤ key y
/-- The same elements, those of one key in the same order. -/
def FEq (key : α → Int) (l l' : List α) : Prop := ∀ k, l.filter (fun x => key x == k) = l'.filter (fun x => key x == k)

theorem FEq.refl (key : α → Int) (l : List α) : FEq key l l := fun _ => rfl
theorem FEq.symm {key : α → Int} {l l' : List α} (h : FEq key l l') : FEq key l' l := fun k => (h k).symm
theorem FEq.trans {key : α → Int} {a b c : List α} (h : FEq key a b) (h' : FEq key b c) : FEq key a c := fun k => (h k).trans (h' k)
theorem FEq.app {key : α → Int} {a b c d : List α} (h : FEq key a b) (h' : FEq key c d) : FEq key (a ++ c) (b ++ d) := fun k => by rw [List.filter_append, List.filter_append, h k, h' k]
theorem FEq.mem {key : α → Int} {a b : List α} (h : FEq key a b) (x : α) : x ∈ a ↔ x ∈ b := by
  have h1 : ∀ l : List α, x ∈ l ↔ x ∈ l.filter (fun y => key y == key x) := fun l => by simp
  rw [h1 a, h1 b, h (key x)]
theorem FEq.swap {key : α → Int} (u v : List α) (h : ∀ x ∈ u, ∀ y ∈ v, key x ≠ key y) : FEq key (u ++ v) (v ++ u) := fun k => by
  rw [List.filter_append, List.filter_append]
  by_cases hu : u.filter (fun x => key x == k) = []
  · rw [hu]; simp
  · have : v.filter (fun x => key x == k) = [] := by
      obtain ⟨x, hx⟩ := List.exists_mem_of_ne_nil _ hu
      rw [List.filter_eq_nil_iff]
      intro y hy hk
      rw [List.mem_filter] at hx
      simp at hx hk
      exact h x hx.1 y hy (by omega)
    rw [this]; simp
theorem FEq.length {key : α → Int} : ∀ {a b : List α}, FEq key a b → a.length = b.length := by
  intro a
  induction a with
  | nil =>
    intro b h
    cases b with
    | nil => rfl
    | cons y b => have := (h.mem y).2 (by simp); simp at this
  | cons x a ih =>
    intro b h
    obtain ⟨s, t, rfl, hs⟩ : ∃ s t, b = s ++ x :: t ∧ ∀ y ∈ s, key y ≠ key x := by
      have hk := h (key x)
      have hx : (x :: a).filter (fun y => key y == key x) = x :: a.filter (fun y => key y == key x) := by simp
      rw [hx] at hk
      clear ih hx h
      induction b with
      | nil => simp at hk
      | cons y b ihb =>
        by_cases hy : key y = key x
        · have : (y :: b).filter (fun z => key z == key x) = y :: b.filter (fun z => key z == key x) := by simp [hy]
          rw [this] at hk
          injection hk with h1 h2
          subst h1
          exact ⟨[], b, rfl, by simp⟩
        · have : (y :: b).filter (fun z => key z == key x) = b.filter (fun z => key z == key x) := by simp [hy]
          rw [this] at hk
          obtain ⟨s, t, rfl, hs⟩ := ihb hk
          exact ⟨y :: s, t, rfl, by simp; exact ⟨hy, hs⟩⟩
    have : FEq key a (s ++ t) := fun k => by
      have := h k
      by_cases hk : key x = k
      · subst hk
        simp only [List.filter_cons, List.filter_append, beq_self_eq_true, if_true] at this
        have hs0 : s.filter (fun y => key y == key x) = [] := by rw [List.filter_eq_nil_iff]; intro y hy h1; exact hs y hy (by simpa using h1)
        rw [hs0] at this
        simp only [List.nil_append, List.cons.injEq, true_and] at this
        rw [List.filter_append, hs0, List.nil_append]
        exact this
      · simpa [List.filter_cons, hk] using this
    have := ih this
    simp only [List.length_append, List.length_cons] at this ⊢
    omega

/-- Two sorted lists of the same elements in this sense are one. -/
theorem sorted_unique {key : α → Int} : ∀ {a b : List α}, Sorted key a → Sorted key b → FEq key a b → a = b := by
  intro a
  induction a with
  | nil => intro b _ _ h; have := h.length; cases b with | nil => rfl | cons => simp at this
  | cons x a ih =>
    intro b ha hb h
    cases b with
    | nil => have := h.length; simp at this
    | cons y b =>
      unfold Sorted at ha hb
      rw [List.pairwise_cons] at ha hb
      have h1 : key y ≤ key x := by
        have := (h.mem x).1 (by simp)
        rcases List.mem_cons.1 this with e | e
        · rw [e]; omega
        · exact hb.1 x e
      have h2 : key x ≤ key y := by
        have := (h.mem y).2 (by simp)
        rcases List.mem_cons.1 this with e | e
        · rw [e]; omega
        · exact ha.1 y e
      have hk : key x = key y := by omega
      have h3 := h (key x)
      simp only [List.filter_cons, beq_self_eq_true, if_true, hk] at h3
      injection h3 with e _
      subst e
      rw [ih ha.2 hb.2 (fun k => ?_)]
      have := h k
      by_cases hkk : key x = k
      · simpa [List.filter_cons, hkk] using this
      · simpa [List.filter_cons, hkk] using this

/-- Two neighbours change places. -/
theorem swap_adj (p q : List α) (x y : α) (i j : Nat) (hi : i = p.length) (hj : j = p.length + 1) : ((p ++ x :: y :: q).set j x).set i y = p ++ y :: x :: q := by
  subst hi hj
  rw [List.set_append_right _ _ (by omega), show p.length + 1 - p.length = 1 from by omega, List.set_append_right _ _ (by omega), Nat.sub_self]
  rfl
theorem swap_adj' (p q : List α) (x y : α) (i j : Nat) (hi : i = p.length) (hj : j = p.length + 1) : ((p ++ x :: y :: q).set i y).set j x = p ++ y :: x :: q := by
  subst hi hj
  rw [List.set_append_right _ _ (by omega), Nat.sub_self, List.set_append_right _ _ (by omega), show p.length + 1 - p.length = 1 from by omega]
  rfl
/-- Two elements change places. -/
theorem swap_far (p q r : List α) (x y : α) (i j : Nat) (hi : i = p.length) (hj : j = p.length + 1 + q.length) : ((p ++ x :: q ++ y :: r).set i y).set j x = p ++ y :: q ++ x :: r := by
  subst hi hj
  rw [List.append_assoc, List.set_append_right _ _ (by omega), Nat.sub_self, List.set_append_right _ _ (by omega), show p.length + 1 + q.length - p.length = q.length + 1 from by omega]
  simp only [List.cons_append, List.set_cons_zero, List.set_cons_succ]
  rw [List.set_append_right _ _ (by omega), Nat.sub_self]
  simp
theorem swap_far' (p q r : List α) (x y : α) (i j : Nat) (hi : i = p.length) (hj : j = p.length + 1 + q.length) : ((p ++ x :: q ++ y :: r).set j x).set i y = p ++ y :: q ++ x :: r := by
  rw [List.set_comm _ _ (by omega), swap_far p q r x y i j hi hj]

theorem get_mid (p q : List α) (x : α) (i : Nat) (hi : i = p.length) : (p ++ x :: q)[i]? = some x := by
  subst hi; simp
/-- One step of an exchange of two ranges. -/
theorem range_step (p u q v r : List α) (k i j : Nat) (hk : k < u.length) (huv : u.length = v.length) (hi : i = p.length + k) (hj : j = p.length + u.length + q.length + k) :
    ∃ x y, (p ++ (v.take k ++ u.drop k) ++ q ++ (u.take k ++ v.drop k) ++ r)[i]? = some x ∧ (p ++ (v.take k ++ u.drop k) ++ q ++ (u.take k ++ v.drop k) ++ r)[j]? = some y ∧
      ((p ++ (v.take k ++ u.drop k) ++ q ++ (u.take k ++ v.drop k) ++ r).set i y).set j x = p ++ (v.take (k + 1) ++ u.drop (k + 1)) ++ q ++ (u.take (k + 1) ++ v.drop (k + 1)) ++ r := by
  have hkv : k < v.length := by omega
  have e : p ++ (v.take k ++ u.drop k) ++ q ++ (u.take k ++ v.drop k) ++ r = (p ++ v.take k) ++ u[k] :: (u.drop (k + 1) ++ q ++ u.take k) ++ v[k] :: (v.drop (k + 1) ++ r) := by
    rw [List.drop_eq_getElem_cons hk, List.drop_eq_getElem_cons hkv]
    simp only [List.append_assoc, List.cons_append]
  have l1 : (p ++ v.take k).length = p.length + k := by rw [List.length_append, List.length_take]; omega
  have l2 : (u.drop (k + 1) ++ q ++ u.take k).length = (u.length - (k + 1)) + q.length + k := by
    simp only [List.length_append, List.length_drop, List.length_take]; omega
  refine ⟨u[k], v[k], ?_, ?_, ?_⟩
  · rw [e, List.append_assoc, List.cons_append]
    exact get_mid _ _ _ _ (by omega)
  · rw [e]
    refine get_mid _ _ _ _ ?_
    rw [List.length_append, List.length_cons, l1, l2]; omega
  · rw [e, swap_far _ _ _ _ _ _ _ (by omega) (by omega), List.take_succ_eq_append_getElem hk, List.take_succ_eq_append_getElem hkv]
    simp only [List.append_assoc, List.cons_append, List.nil_append]

theorem sorted_app {key : α → Int} {a b : List α} : Sorted key (a ++ b) ↔ Sorted key a ∧ Sorted key b ∧ ∀ x ∈ a, ∀ y ∈ b, key x ≤ key y := List.pairwise_append
/-- An element that is less than all behind it, and no less than all ahead of it, is in its place. -/
theorem insert_done {key : α → Int} {L R : List α} {x : α} (h : Sorted key (L ++ R)) (h1 : ∀ y ∈ R, key x < key y) (h2 : ∀ y ∈ L, key y ≤ key x) : Sorted key (L ++ x :: R) := by
  rw [sorted_app] at h ⊢
  refine ⟨h.1, ?_, fun y hy z hz => ?_⟩
  · exact List.pairwise_cons.2 ⟨fun y hy => Int.le_of_lt (h1 y hy), h.2.1⟩
  · rcases List.mem_cons.1 hz with e | e
    · rw [e]; exact h2 y hy
    · exact h.2.2 y hy z e
/-- No less than the last of what is sorted is no less than all. -/
theorem last_le {key : α → Int} {L : List α} {y x : α} (h : Sorted key (L ++ [y])) (hx : key y ≤ key x) : ∀ z ∈ L ++ [y], key z ≤ key x := by
  intro z hz
  rw [sorted_app] at h
  rcases List.mem_append.1 hz with e | e
  · exact Int.le_trans (h.2.2 z e y (by simp)) hx
  · rw [List.mem_singleton.1 e]; exact hx
theorem FEq.step {key : α → Int} (L R : List α) (x y : α) (h : key x < key y) : FEq key (L ++ y :: x :: R) (L ++ x :: y :: R) := by
  have := (FEq.refl key L).app ((FEq.swap (key := key) [y] [x] (by simp; omega)).app (FEq.refl key R))
  simpa using this
theorem sorted_mid {key : α → Int} {L R : List α} {y : α} (h : Sorted key ((L ++ [y]) ++ R)) : Sorted key (L ++ (y :: R)) := by simpa using h

theorem sorted_take {key : α → Int} {l : List α} {y : α} {t : Nat} (h : Sorted key l) (hy : l[t]? = some y) : ∀ z ∈ l.take (t + 1), key z ≤ key y := by
  intro z hz
  have ht : t < l.length := (List.getElem?_eq_some_iff.1 hy).1
  rw [List.take_add_one, hy] at hz
  have hs : Sorted key (l.take t ++ l.drop t) := by rwa [List.take_append_drop]
  rw [sorted_app] at hs
  rcases List.mem_append.1 hz with e | e
  · exact hs.2.2 z e y (by rw [List.drop_eq_getElem_cons ht, (List.getElem?_eq_some_iff.1 hy).2]; simp)
  · simp at e; rw [e]; exact Int.le_refl _
theorem sorted_drop {key : α → Int} {l : List α} {y : α} {t : Nat} (h : Sorted key l) (hy : l[t]? = some y) : ∀ z ∈ l.drop t, key y ≤ key z := by
  intro z hz
  have ht : t < l.length := (List.getElem?_eq_some_iff.1 hy).1
  have hs : Sorted key (l.drop t) := List.Pairwise.sublist (List.drop_sublist t l) h
  rw [List.drop_eq_getElem_cons ht, (List.getElem?_eq_some_iff.1 hy).2] at hs hz
  rcases List.mem_cons.1 hz with e | e
  · rw [e]; exact Int.le_refl _
  · exact (List.pairwise_cons.1 hs).1 z e
/-- x moved behind the first t of l, all less than x, the others no less. -/
theorem move_right {key : α → Int} {l : List α} {x : α} {t : Nat} (h : Sorted key l) (h1 : ∀ y ∈ l.take t, key y < key x) (h2 : ∀ y ∈ l.drop t, key x ≤ key y) :
    Sorted key (l.take t ++ x :: l.drop t) ∧ FEq key (x :: l) (l.take t ++ x :: l.drop t) := by
  have hs : Sorted key (l.take t ++ l.drop t) := by rwa [List.take_append_drop]
  rw [sorted_app] at hs
  refine ⟨sorted_app.2 ⟨hs.1, List.pairwise_cons.2 ⟨h2, hs.2.1⟩, fun y hy z hz => ?_⟩, ?_⟩
  · rcases List.mem_cons.1 hz with e | e
    · rw [e]; exact Int.le_of_lt (h1 y hy)
    · exact hs.2.2 y hy z e
  · have h3 := (FEq.swap (key := key) [x] (l.take t) (by simp only [List.mem_singleton, forall_eq]; intro y hy; have := h1 y hy; omega)).app (FEq.refl key (l.drop t))
    simpa using h3
/-- x moved ahead of all of l but the first t, all greater than x, the others no greater. -/
theorem move_left {key : α → Int} {l : List α} {x : α} {t : Nat} (h : Sorted key l) (h1 : ∀ y ∈ l.take t, key y ≤ key x) (h2 : ∀ y ∈ l.drop t, key x < key y) :
    Sorted key (l.take t ++ x :: l.drop t) ∧ FEq key (l ++ [x]) (l.take t ++ x :: l.drop t) := by
  have hs : Sorted key (l.take t ++ l.drop t) := by rwa [List.take_append_drop]
  rw [sorted_app] at hs
  refine ⟨sorted_app.2 ⟨hs.1, List.pairwise_cons.2 ⟨fun y hy => Int.le_of_lt (h2 y hy), hs.2.1⟩, fun y hy z hz => ?_⟩, ?_⟩
  · rcases List.mem_cons.1 hz with e | e
    · rw [e]; exact h1 y hy
    · exact hs.2.2 y hy z e
  · have h3 := (FEq.refl key (l.take t)).app (FEq.swap (key := key) (l.drop t) [x] (by intro y hy z hz; rw [List.mem_singleton.1 hz]; have := h2 y hy; omega))
    have e : l ++ [x] = l.take t ++ (l.drop t ++ [x]) := by rw [← List.append_assoc, List.take_append_drop]
    rw [e]; simpa using h3
/-- What a symmetrical merge puts together. -/
theorem merge_join {key : α → Int} {u1 u2 v1 v2 L R : List α} (hu : Sorted key (u1 ++ u2)) (hv : Sorted key (v1 ++ v2)) (h1 : ∀ x ∈ u1, ∀ y ∈ v2, key x ≤ key y) (h2 : ∀ x ∈ u2, ∀ y ∈ v1, key y < key x)
    (hL : Sorted key L) (hR : Sorted key R) (eL : FEq key (u1 ++ v1) L) (eR : FEq key (u2 ++ v2) R) : Sorted key (L ++ R) ∧ FEq key ((u1 ++ u2) ++ (v1 ++ v2)) (L ++ R) := by
  rw [sorted_app] at hu hv
  constructor
  · refine sorted_app.2 ⟨hL, hR, fun x hx y hy => ?_⟩
    rcases List.mem_append.1 ((eL.mem x).2 hx) with a | a <;> rcases List.mem_append.1 ((eR.mem y).2 hy) with b | b
    · exact hu.2.2 x a y b
    · exact h1 x a y b
    · exact Int.le_of_lt (h2 y b x a)
    · exact hv.2.2 x a y b
  · have h3 := (FEq.refl key u1).app ((FEq.swap (key := key) u2 v1 (by intro x hx y hy; have := h2 x hx y hy; omega)).app (FEq.refl key v2))
    have h4 := eL.app eR
    have e1 : (u1 ++ u2) ++ (v1 ++ v2) = u1 ++ ((u2 ++ v1) ++ v2) := by simp
    have e2 : u1 ++ ((v1 ++ u2) ++ v2) = (u1 ++ v1) ++ (u2 ++ v2) := by simp
    rw [e1]; exact h3.trans (by rw [e2]; exact h4)

/-- Runs of length bs, each sorted. -/
def Full (key : α → Int) (bs : Nat) (Rs : List (List α)) : Prop := ∀ s ∈ Rs, s.length = bs ∧ Sorted key s
theorem Full.nil (key : α → Int) (bs : Nat) : Full key bs [] := by intro s hs; simp at hs
theorem Full.snoc {key : α → Int} {bs : Nat} {Rs : List (List α)} (h : Full key bs Rs) {s : List α} (h1 : s.length = bs) (h2 : Sorted key s) : Full key bs (Rs ++ [s]) := by
  intro q hq
  rcases List.mem_append.1 hq with e | e
  · exact h q e
  · rw [List.mem_singleton.1 e]; exact ⟨h1, h2⟩
theorem Full.length {key : α → Int} {bs : Nat} {Rs : List (List α)} (h : Full key bs Rs) : Rs.flatten.length = Rs.length * bs := by
  induction Rs with
  | nil => simp
  | cons s Rs ih =>
    rw [List.flatten_cons, List.length_append, (h s (by simp)).1, ih (fun q hq => h q (by simp [hq])), List.length_cons, Nat.succ_mul]; omega
theorem Full.tail {key : α → Int} {bs : Nat} {s : List α} {Rs : List (List α)} (h : Full key bs (s :: Rs)) : Full key bs Rs := fun q hq => h q (by simp [hq])
/-- One run alone. -/
theorem Full.done {key : α → Int} {bs n : Nat} {Rs : List (List α)} {t : List α} (h : Full key bs Rs) (ht : Sorted key t) (hl : t.length < bs) (hn : (Rs.flatten ++ t).length = n) (hb : n ≤ bs) : Sorted key (Rs.flatten ++ t) := by
  rw [List.length_append, h.length] at hn
  match Rs, h, hn with
  | [], _, _ => simpa using ht
  | [s], h, hn =>
    have : t = [] := List.eq_nil_of_length_eq_zero (by simp at hn; omega)
    rw [this]; simpa using (h s (by simp)).2
  | s :: s' :: Rs, _, hn =>
    simp only [List.length_cons, Nat.succ_mul] at hn
    omega

theorem sorted_nil (key : α → Int) : Sorted key ([] : List α) := List.Pairwise.nil
theorem sorted_one (key : α → Int) (x : α) : Sorted key [x] := List.pairwise_singleton _ _
end Go.Proofs.YtfeloicmkcfinaaDoor.Srt
