/- Plain: lengths as steps (runs of one length, and of noughts), and what steps tell. -/
namespace Go.Proofs.YtfeloicmkcfinaaDoor.Lw

/-- A step: its symbol, what comes behind it, in how many bits. -/
abbrev St := Int × Int × Int
def wid (s : Int) : Int := if s = 16 then 2 else if s = 17 then 3 else if s = 18 then 7 else 0
def base (s : Int) : Int := if s = 16 then 3 else if s = 17 then 3 else if s = 18 then 11 else 1
def nought (n : Nat) : List St := if n < 3 then List.replicate n (0, 0, 0) else if n < 11 then [(17, (n : Int) - 3, 3)] else [(18, (n : Int) - 11, 7)]
def zeros (n : Nat) : List St := if _h : n = 0 then [] else nought (min n 138) ++ zeros (n - min n 138)
termination_by n
decreasing_by omega
def reps (v : Int) (n : Nat) : List St := if _h : n = 0 then [] else if n < 3 then (v, 0, 0) :: reps v (n - 1) else (16, ((min n 6 : Nat) : Int) - 3, 2) :: reps v (n - min n 6)
termination_by n
decreasing_by all_goals omega
def runS (v : Int) (n : Nat) : List St := if v = 0 then zeros n else (v, 0, 0) :: reps v (n - 1)
/-- How many of the first ones are v. -/
def lead (v : Int) : List Int → Nat
  | [] => 0
  | x :: t => if x = v then lead v t + 1 else 0
theorem lead_le (v : Int) : ∀ l : List Int, lead v l ≤ l.length
  | [] => Nat.le_refl _
  | x :: t => by
    have := lead_le v t
    unfold lead
    split <;> simp <;> omega
def steps : List Int → List St
  | [] => []
  | v :: t => runS v (lead v t + 1) ++ steps (t.drop (lead v t))
termination_by l => l.length
decreasing_by simp; omega
theorem zeros_zero : zeros 0 = [] := by unfold zeros; rfl
theorem zeros_next {n : Nat} (h : 0 < n) : zeros n = nought (min n 138) ++ zeros (n - min n 138) := by
  conv => lhs; unfold zeros
  rw [dif_neg (by omega)]
theorem reps_zero (v : Int) : reps v 0 = [] := by unfold reps; rfl
theorem reps_few {v : Int} {n : Nat} (h : 0 < n) (h3 : n < 3) : reps v n = (v, 0, 0) :: reps v (n - 1) := by
  conv => lhs; unfold reps
  rw [dif_neg (by omega), if_pos h3]
theorem reps_more {v : Int} {n : Nat} (h3 : 3 ≤ n) : reps v n = (16, ((min n 6 : Nat) : Int) - 3, 2) :: reps v (n - min n 6) := by
  conv => lhs; unfold reps
  rw [dif_neg (by omega), if_neg (by omega)]
theorem steps_cons (v : Int) (t : List Int) : steps (v :: t) = runS v (lead v t + 1) ++ steps (t.drop (lead v t)) := by
  conv => lhs; unfold steps
theorem steps_nil : steps [] = [] := by unfold steps; rfl

/-- A step that may be. -/
def Fine (st : St) : Prop := 0 ≤ st.1 ∧ st.1 ≤ 18 ∧ 0 ≤ st.2.1 ∧ st.2.1 < 2 ^ st.2.2.toNat ∧ st.2.2 = wid st.1
theorem nought_fine {n : Nat} (h : n ≤ 138) : ∀ st ∈ nought n, Fine st := by
  intro st hs
  unfold nought at hs
  split at hs
  · obtain rfl := (List.mem_replicate.1 hs).2
    simp [Fine, wid]
  · split at hs
    · obtain rfl := List.mem_singleton.1 hs
      simp [Fine, wid]; omega
    · obtain rfl := List.mem_singleton.1 hs
      simp [Fine, wid]; omega
theorem zeros_fine (n : Nat) : ∀ st ∈ zeros n, Fine st := by
  induction n using Nat.strongRecOn with
  | _ n ih =>
    intro st hs
    by_cases h : n = 0
    · subst h; rw [zeros_zero] at hs; cases hs
    · rw [zeros_next (by omega)] at hs
      rcases List.mem_append.1 hs with hs | hs
      · exact nought_fine (by omega) st hs
      · exact ih _ (by omega) st hs
theorem reps_fine {v : Int} (h0 : 0 ≤ v) (h1 : v ≤ 15) (n : Nat) : ∀ st ∈ reps v n, Fine st := by
  induction n using Nat.strongRecOn with
  | _ n ih =>
    intro st hs
    by_cases h : n = 0
    · subst h; rw [reps_zero] at hs; cases hs
    · by_cases h3 : n < 3
      · rw [reps_few (by omega) h3] at hs
        rcases List.mem_cons.1 hs with rfl | hs
        · simp [Fine, wid]; omega
        · exact ih _ (by omega) st hs
      · rw [reps_more (by omega)] at hs
        rcases List.mem_cons.1 hs with rfl | hs
        · simp [Fine, wid]; omega
        · exact ih _ (by omega) st hs
theorem runS_fine {v : Int} (h0 : 0 ≤ v) (h1 : v ≤ 15) (n : Nat) : ∀ st ∈ runS v n, Fine st := by
  intro st hs
  unfold runS at hs
  split at hs
  · exact zeros_fine n st hs
  · rcases List.mem_cons.1 hs with rfl | hs
    · simp [Fine, wid]; omega
    · exact reps_fine h0 h1 _ st hs
theorem steps_fine : ∀ (k : Nat) (l : List Int), l.length ≤ k → (∀ x ∈ l, 0 ≤ x ∧ x ≤ 15) → ∀ st ∈ steps l, Fine st := by
  intro k
  induction k with
  | zero =>
    intro l hl _ st hs
    obtain rfl := List.length_eq_zero_iff.1 (Nat.le_zero.1 hl)
    rw [steps_nil] at hs; cases hs
  | succ k ih =>
    intro l hl hx st hs
    cases l with
    | nil => rw [steps_nil] at hs; cases hs
    | cons v t =>
      rw [steps_cons] at hs
      rcases List.mem_append.1 hs with hs | hs
      · exact runS_fine (hx v (by simp)).1 (hx v (by simp)).2 _ st hs
      · exact ih _ (by simp at hl ⊢; omega) (fun x h => hx x (List.mem_cons_of_mem _ (List.mem_of_mem_drop h))) st hs

/-! ### What steps tell -/
def many (st : St) : Nat := (base st.1 + st.2.1).toNat
def val (last : Int) (st : St) : Int := if st.1 < 16 then st.1 else if st.1 = 16 then last else 0
def lastOf (last : Int) (st : St) : Int := if 0 < st.1 ∧ st.1 < 16 then st.1 else last
def play : Int → List St → List Int
  | _, [] => []
  | last, st :: t => List.replicate (many st) (val last st) ++ play (lastOf last st) t
def lastAll : Int → List St → Int
  | last, [] => last
  | last, st :: t => lastAll (lastOf last st) t
theorem play_app (a b : List St) : ∀ last, play last (a ++ b) = play last a ++ play (lastAll last a) b := by
  induction a with
  | nil => intro last; rfl
  | cons st t ih => intro last; show _ ++ play _ (t ++ b) = _; rw [ih, ← List.append_assoc]; rfl
theorem play_none (n : Nat) (last : Int) : play last (List.replicate n (0, 0, 0)) = List.replicate n 0 ∧ lastAll last (List.replicate n (0, 0, 0)) = last := by
  induction n with
  | zero => exact ⟨rfl, rfl⟩
  | succ n ih =>
    rw [List.replicate_succ]
    have e : lastOf last (0, 0, 0) = last := rfl
    constructor
    · show List.replicate 1 0 ++ play (lastOf last (0, 0, 0)) _ = _
      rw [e, ih.1]; rfl
    · show lastAll (lastOf last (0, 0, 0)) _ = _
      rw [e]; exact ih.2
theorem play_nought {n : Nat} (last : Int) : play last (nought n) = List.replicate n 0 ∧ lastAll last (nought n) = last := by
  unfold nought
  split
  · exact play_none n last
  · split
    · constructor
      · show List.replicate (many (17, (n : Int) - 3, 3)) 0 ++ [] = _
        rw [List.append_nil]; congr 1; simp [many, base]; omega
      · rfl
    · constructor
      · show List.replicate (many (18, (n : Int) - 11, 7)) 0 ++ [] = _
        rw [List.append_nil]; congr 1; simp [many, base]; omega
      · rfl
theorem play_zeros (n : Nat) (last : Int) : play last (zeros n) = List.replicate n 0 ∧ lastAll last (zeros n) = last := by
  induction n using Nat.strongRecOn with
  | _ n ih =>
    by_cases h : n = 0
    · subst h; rw [zeros_zero]; exact ⟨rfl, rfl⟩
    · rw [zeros_next (by omega)]
      have h1 := play_nought (n := min n 138) last
      have h2 := ih (n - min n 138) (by omega)
      constructor
      · rw [play_app, h1.1, h1.2, h2.1, List.replicate_append_replicate]; congr 1; omega
      · have la : ∀ (a b : List St) l, lastAll l (a ++ b) = lastAll (lastAll l a) b := by
          intro a b
          induction a with
          | nil => intro l; rfl
          | cons st t ih => intro l; exact ih _
        rw [la, h1.2, h2.2]
theorem play_reps {v : Int} (h0 : 0 < v) (h1 : v ≤ 15) (n : Nat) : play v (reps v n) = List.replicate n v ∧ lastAll v (reps v n) = v := by
  induction n using Nat.strongRecOn with
  | _ n ih =>
    by_cases h : n = 0
    · subst h; rw [reps_zero]; exact ⟨rfl, rfl⟩
    · by_cases h3 : n < 3
      · rw [reps_few (by omega) h3]
        have h2 := ih (n - 1) (by omega)
        have e1 : lastOf v (v, 0, 0) = v := by simp [lastOf]
        have e2 : val v (v, 0, 0) = v := by simp only [val]; rw [if_pos (by omega)]
        have e3 : many (v, 0, 0) = 1 := by
          have a : ¬ v = 16 := by omega
          have b : ¬ v = 17 := by omega
          have c : ¬ v = 18 := by omega
          simp [many, base, a, b, c]
        constructor
        · show List.replicate (many (v, 0, 0)) (val v (v, 0, 0)) ++ play (lastOf v (v, 0, 0)) _ = _
          rw [e1, e2, e3, h2.1, List.replicate_append_replicate]; congr 1; omega
        · show lastAll (lastOf v (v, 0, 0)) _ = _
          rw [e1]; exact h2.2
      · rw [reps_more (by omega)]
        have h2 := ih (n - min n 6) (by omega)
        have e1 : lastOf v (16, ((min n 6 : Nat) : Int) - 3, 2) = v := by simp [lastOf]
        have e2 : val v (16, ((min n 6 : Nat) : Int) - 3, 2) = v := by simp [val]
        have e3 : many (16, ((min n 6 : Nat) : Int) - 3, 2) = min n 6 := by simp [many, base]; omega
        constructor
        · show List.replicate (many (16, ((min n 6 : Nat) : Int) - 3, 2)) (val v (16, ((min n 6 : Nat) : Int) - 3, 2)) ++ play (lastOf v (16, ((min n 6 : Nat) : Int) - 3, 2)) _ = _
          rw [e1, e2, e3, h2.1, List.replicate_append_replicate]; congr 1; omega
        · show lastAll (lastOf v (16, ((min n 6 : Nat) : Int) - 3, 2)) _ = _
          rw [e1]; exact h2.2
theorem play_run {v : Int} (h0 : 0 ≤ v) (h1 : v ≤ 15) (n : Nat) (hn : 0 < n) (last : Int) : play last (runS v n) = List.replicate n v := by
  unfold runS
  split
  · rename_i h; subst h; exact (play_zeros n last).1
  · rename_i h
    have e1 : lastOf last (v, 0, 0) = v := by simp only [lastOf]; rw [if_pos (by omega)]
    have e2 : val last (v, 0, 0) = v := by simp only [val]; rw [if_pos (by omega)]
    have e3 : many (v, 0, 0) = 1 := by
      have a : ¬ v = 16 := by omega
      have b : ¬ v = 17 := by omega
      have c : ¬ v = 18 := by omega
      simp [many, base, a, b, c]
    show List.replicate (many (v, 0, 0)) (val last (v, 0, 0)) ++ play (lastOf last (v, 0, 0)) _ = _
    rw [e1, e2, e3, (play_reps (by omega) h1 (n - 1)).1, List.replicate_append_replicate]; congr 1; omega
theorem lead_take (v : Int) : ∀ t : List Int, t = List.replicate (lead v t) v ++ t.drop (lead v t)
  | [] => rfl
  | x :: t => by
    unfold lead
    split
    · rename_i h; subst h
      rw [List.replicate_succ]
      show _ = x :: (_ ++ t.drop _)
      rw [← lead_take x t]
    · rfl
theorem play_steps : ∀ (k : Nat) (l : List Int), l.length ≤ k → (∀ x ∈ l, 0 ≤ x ∧ x ≤ 15) → ∀ last, play last (steps l) = l := by
  intro k
  induction k with
  | zero =>
    intro l hl _ last
    obtain rfl := List.length_eq_zero_iff.1 (Nat.le_zero.1 hl)
    rw [steps_nil]; rfl
  | succ k ih =>
    intro l hl hx last
    cases l with
    | nil => rw [steps_nil]; rfl
    | cons v t =>
      rw [steps_cons, play_app, play_run (hx v (by simp)).1 (hx v (by simp)).2 _ (by omega), ih _ (by simp at hl ⊢; omega) (fun x h => hx x (List.mem_cons_of_mem _ (List.mem_of_mem_drop h)))]
      rw [List.replicate_succ]
      show v :: (_ ++ _) = _
      rw [← lead_take v t]
theorem many_pos {st : St} (h : Fine st) : 1 ≤ many st ∧ many st ≤ 138 := by
  obtain ⟨s, x, b⟩ := st
  obtain ⟨h0, h1, h2, h3, h4⟩ := h
  simp only at h0 h1 h2 h3 h4
  subst h4
  simp only [many, base]
  unfold wid at h3
  split <;> (try split) <;> (try split) <;> simp_all <;> omega
theorem play_len (l : List St) (h : ∀ st ∈ l, Fine st) : ∀ last, l.length ≤ (play last l).length := by
  induction l with
  | nil => intro _; exact Nat.le_refl _
  | cons st t ih =>
    intro last
    have h1 := many_pos (h st (by simp))
    have h2 := ih (fun x hx => h x (List.mem_cons_of_mem _ hx)) (lastOf last st)
    show _ ≤ (List.replicate (many st) (val last st) ++ play (lastOf last st) t).length
    rw [List.length_append, List.length_replicate, List.length_cons]; omega
end Go.Proofs.YtfeloicmkcfinaaDoor.Lw
