/- Plain: lengths as steps (runs of one length, and of noughts), and what steps tell. -/

namespace Go.Proofs.Ytbljoihnjhllhaa.Lw

/-- A step: its symbol, what comes behind it, in how many bits. -/
abbrev St := Int × Int × Int
def wid (s : Int) : Int := if s = 16 then 2 else if s = 17 then 3 else if s = 18 then 7 else 0
def base (s : Int) : Int := if s = 16 then 3 else if s = 17 then 3 else if s = 18 then 11 else 1
def nought (n : Nat) : List St := if n < 3 then List.replicate n (0, 0, 0) else if n < 11 then [(17, (n : Int) - 3, 3)] else [(18, (n : Int) - 11, 7)]
def zeros (n : Nat) : List St := if _h : n = 0 then [] else nought (min n 138) ++ zeros (n - min n 138)
termination_by n
decreasing_by omega
def reps (v : Int) (n : Nat) : List St := if _h : n = 0 then [] else if n < 3 then (v, 0, 0) :: reps v (n - 1) else (16, ((min n 6 : Nat) : Int) - 3, 2) :: reps v (n - min n 6)
termination_by n
decreasing_by all_goals omega
def runS (v : Int) (n : Nat) : List St := if v = 0 then zeros n else (v, 0, 0) :: reps v (n - 1)
/-- How many of the first ones are v. -/
def lead (v : Int) : List Int → Nat
  | [] => 0
  | x :: t => if x = v then lead v t + 1 else 0
theorem lead_le (v : Int) : ∀ l : List Int, lead v l ≤ l.length
  | [] => Nat.le_refl _
  | x :: t => by
    have := lead_le v t
    unfold lead
    split <;> simp <;> omega
def steps : List Int → List St
  | [] => []
  | v :: t => runS v (lead v t + 1) ++ steps (t.drop (lead v t))
termination_by l => l.length
decreasing_by simp; omega
theorem zeros_zero : zeros 0 = [] := by unfold zeros; rfl
theorem zeros_next {n : Nat} (h : 0 < n) : zeros n = nought (min n 138) ++ zeros (n - min n 138) := by
  conv => lhs; unfold zeros
  rw [dif_neg (by omega)]
theorem reps_zero (v : Int) : reps v 0 = [] := by unfold reps; rfl
theorem reps_few {v : Int} {n : Nat} (h : 0 < n) (h3 : n < 3) : reps v n = (v, 0, 0) :: reps v (n - 1) := by
  conv => lhs; unfold reps
  rw [dif_neg (by omega), if_pos h3]
theorem reps_more {v : Int} {n : Nat} (h3 : 3 ≤ n) : reps v n = (16, ((min n 6 : Nat) : Int) - 3, 2) :: reps v (n - min n 6) := by
  conv => lhs; unfold reps
  rw [dif_neg (by omega), if_neg (by omega)]
theorem steps_cons (v : Int) (t : List Int) : steps (v :: t) = runS v (lead v t + 1) ++ steps (t.drop (lead v t)) := by
  conv => lhs; unfold steps
theorem steps_nil : steps [] = [] := by unfold steps; rfl

/-- A step that may be. -/
def Fine (st : St) : Prop := 0 ≤ st.1 ∧ st.1 ≤ 18 ∧ 0 ≤ st.2.1 ∧ st.2.1 < 2 ^ st.2.2.toNat ∧ st.2.2 = wid st.1
theorem nought_fine {n : Nat} (h : n ≤ 138) : ∀ st ∈ nought n, Fine st := by
  intro st hs
  unfold nought at hs
  split at hs
  · obtain rfl := (List.mem_replicate.1 hs).2
    simp [Fine, wid]
  · split at hs
    · obtain rfl := List.mem_singleton.1 hs
      simp [Fine, wid]; omega
    · obtain rfl := List.mem_singleton.1 hs
      simp [Fine, wid]; omega
theorem zeros_fine (n : Nat) : ∀ st ∈ zeros n, Fine st := by
  induction n using Nat.strongRecOn with
  | _ n ih =>
    intro st hs
    by_cases h : n = 0
    · subst h; rw [zeros_zero] at hs; cases hs
    · rw [zeros_next (by omega)] at hs
      rcases List.mem_append.1 hs with hs | hs
      · exact nought_fine (by omega) st hs
      · exact ih _ (by omega) st hs
theorem reps_fine {v : Int} (h0 : 0 ≤ v) (h1 : v ≤ 15) (n : Nat) : ∀ st ∈ reps v n, Fine st := by
  induction n using Nat.strongRecOn with
  | _ n ih =>
    intro st hs
    by_cases h : n = 0
    · subst h; rw [reps_zero] at hs; cases hs
    · by_cases h3 : n < 3
      · rw [reps_few (by omega) h3] at hs
        rcases List.mem_cons.1 hs with rfl | hs
        · simp [Fine, wid]; omega
        · exact ih _ (by omega) st hs
      · rw [reps_more (by omega)] at hs
        rcases List.mem_cons.1 hs with rfl | hs
        · simp [Fine, wid]; omega
        · exact ih _ (by omega) st hs
theorem runS_fine {v : Int} (h0 : 0 ≤ v) (h1 : v ≤ 15) (n : Nat) : ∀ st ∈ runS v n, Fine st := by
  intro st hs
  unfold runS at hs
  split at hs
  · exact zeros_fine n st hs
  · rcases List.mem_cons.1 hs with rfl | hs
    · simp [Fine, wid]; omega
    · exact reps_fine h0 h1 _ st hs
theorem steps_fine : ∀ (k : Nat) (l : List Int), l.length ≤ k → (∀ x ∈ l, 0 ≤ x ∧ x ≤ 15) → ∀ st ∈ steps l, Fine st := by
  intro k
  induction k with
  | zero =>
    intro l hl _ st hs
    obtain rfl := List.length_eq_zero_iff.1 (Nat.le_zero.1 hl)
    rw [steps_nil] at hs; cases hs
  | succ k ih =>
    intro l hl hx st hs
    cases l with
    | nil => rw [steps_nil] at hs; cases hs
    | cons v t =>
      rw [steps_cons] at hs
      rcases List.mem_append.1 hs with hs | hs
      · exact runS_fine (hx v (by simp)).1 (hx v (by simp)).2 _ st hs
      · exact ih _ (by simp at hl ⊢; omega) (fun x h => hx x (List.mem_cons_of_mem _ (List.mem_of_mem_drop h))) st hs

/-! ### What steps tell -/
def many (st : St) : Nat := (base st.1 + st.2.1).toNat
def val (last : Int) (st : St) : Int := if st.1 < 16 then st.1 else if st.1 = 16 then last else 0
def lastOf (last : Int) (st : St) : Int := if 0 < st.1 ∧ st.1 < 16 then st.1 else last
def play : Int → List St → List Int
  | _, [] => []
  | last, st :: t => List.replicate (many st) (val last st) ++ play (lastOf last st) t
def lastAll : Int → List St → Int
  | last, [] => last
  | last, st :: t => lastAll (lastOf last st) t
theorem play_app (a b : List St) : ∀ last, play last (a ++ b) = play last a ++ play (lastAll last a) b := by
  induction a with
  | nil => intro last; rfl
  | cons st t ih => intro last; show _ ++ play _ (t ++ b) = _; rw [ih, ← List.append_assoc]; rfl
theorem play_none (n : Nat) (last : Int) : play last (List.replicate n (0, 0, 0)) = List.replicate n 0 ∧ lastAll last (List.replicate n (0, 0, 0)) = last := by
  induction n with
  | zero => exact ⟨rfl, rfl⟩
  | succ n ih =>
    rw [List.replicate_succ]
    have e : lastOf last (0, 0, 0) = last := rfl
    constructor
    · show List.replicate 1 0 ++ play (lastOf last (0, 0, 0)) _ = _
      rw [e, ih.1]; rfl
    · show lastAll (lastOf last (0, 0, 0)) _ = _
      rw [e]; exact ih.2
theorem play_nought {n : Nat} (last : Int) : play last (nought n) = List.replicate n 0 ∧ lastAll last (nought n) = last := by
  unfold nought
  split
  · exact play_none n last
  · split
    · constructor
      · show List.replicate (many (17, (n : Int) - 3, 3)) 0 ++ [] = _
        rw [List.append_nil]; congr 1; simp [many, base]; omega
      · rfl
    · constructor
      · show List.replicate (many (18, (n : Int) - 11, 7)) 0 ++ [] = _
        rw [List.append_nil]; congr 1; simp [many, base]; omega
      · rfl
theorem play_zeros (n : Nat) (last : Int) : play last (zeros n) = List.replicate n 0 ∧ lastAll last (zeros n) = last := by
  induction n using Nat.strongRecOn with
  | _ n ih =>
    by_cases h : n = 0
    · subst h; rw [zeros_zero]; exact ⟨rfl, rfl⟩
    · rw [zeros_next (by omega)]
      have h1 := play_nought (n := min n 138) last
      have h2 := ih (n - min n 138) (by omega)
      constructor
      · rw [play_app, h1.1, h1.2, h2.1, List.replicate_append_replicate]; congr 1; omega
      · have la : ∀ (a b : List St) l, lastAll l (a ++ b) = lastAll (lastAll l a) b := by
          intro a b
          induction a with
          | nil => intro l; rfl
          | cons st t ih => intro l; exact ih _
        rw [la, h1.2, h2.2]
theorem play_reps {v : Int} (h0 : 0 < v) (h1 : v ≤ 15) (n : Nat) : play v (reps v n) = List.replicate n v ∧ lastAll v (reps v n) = v := by
  induction n using Nat.strongRecOn with
  | _ n ih =>
    by_cases h : n = 0
    · subst h; rw [reps_zero]; exact ⟨rfl, rfl⟩
    · by_cases h3 : n < 3
      · rw [reps_few (by omega) h3]
        have h2 := ih (n - 1) (by omega)
        have e1 : lastOf v (v, 0, 0) = v := by simp [lastOf]
        have e2 : val v (v, 0, 0) = v := by simp only [val]; rw [if_pos (by omega)]
        have e3 : many (v, 0, 0) = 1 := by
          have a : ¬ v = 16 := by omega
          have b : ¬ v = 17 := by omega
          have c : ¬ v = 18 := by omega
          simp [many, base, a, b, c]
        constructor
        · show List.replicate (many (v, 0, 0)) (val v (v, 0, 0)) ++ play (lastOf v (v, 0, 0)) _ = _
          rw [e1, e2, e3, h2.1, List.replicate_append_replicate]; congr 1; omega
        · show lastAll (lastOf v (v, 0, 0)) _ = _
          rw [e1]; exact h2.2
      · rw [reps_more (by omega)]
        have h2 := ih (n - min n 6) (by omega)
        have e1 : lastOf v (16, ((min n 6 : Nat) : Int) - 3, 2) = v := by simp [lastOf]
        have e2 : val v (16, ((min n 6 : Nat) : Int) - 3, 2) = v := by simp [val]
        have e3 : many (16, ((min n 6 : Nat) : Int) - 3, 2) = min n 6 := by simp [many, base]; omega
        constructor
        · show List.replicate (many (16, ((min n 6 : Nat) : Int) - 3, 2)) (val v (16, ((min n 6 : Nat) : Int) - 3, 2)) ++ play (lastOf v (16, ((min n 6 : Nat) : Int) - 3, 2)) _ = _
          rw [e1, e2, e3, h2.1, List.replicate_append_replicate]; congr 1; omega
        · show lastAll (lastOf v (16, ((min n 6 : Nat) : Int) - 3, 2)) _ = _
          rw [e1]; exact h2.2
theorem play_run {v : Int} (h0 : 0 ≤ v) (h1 : v ≤ 15) (n : Nat) (hn : 0 < n) (last : Int) : play last (runS v n) = List.replicate n v := by
  unfold runS
  split
  · rename_i h; subst h; exact (play_zeros n last).1
  · rename_i h
    have e1 : lastOf last (v, 0, 0) = v := by simp only [lastOf]; rw [if_pos (by omega)]
    have e2 : val last (v, 0, 0) = v := by simp only [val]; rw [if_pos (by omega)]
    have e3 : many (v, 0, 0) = 1 := by
      have a : ¬ v = 16 := by omega
      have b : ¬ v = 17 := by omega
      have c : ¬ v = 18 := by omega
      simp [many, base, a, b, c]
    show List.replicate (many (v, 0, 0)) (val last (v, 0, 0)) ++ play (lastOf last (v, 0, 0)) _ = _
    rw [e1, e2, e3, (play_reps (by omega) h1 (n - 1)).1, List.replicate_append_replicate]; congr 1; omega
theorem lead_take (v : Int) : ∀ t : List Int, t = List.replicate (lead v t) v ++ t.drop (lead v t)
  | [] => rfl
  | x :: t => by
    unfold lead
    split
    · rename_i h; subst h
      rw [List.replicate_succ]
      show _ = x :: (_ ++ t.drop _)
      rw [← lead_take x t]
    · rfl
theorem play_steps : ∀ (k : Nat) (l : List Int), l.length ≤ k → (∀ x ∈ l, 0 ≤ x ∧ x ≤ 15) → ∀ last, play last (steps l) = l := by
  intro k
  induction k with
  | zero =>
    intro l hl _ last
    obtain rfl := List.length_eq_zero_iff.1 (Nat.le_zero.1 hl)
    rw [steps_nil]; rfl
  | succ k ih =>
    intro l hl hx last
    cases l with
    | nil => rw [steps_nil]; rfl
    | cons v t =>
      rw [steps_cons, play_app, play_run (hx v (by simp)).1 (hx v (by simp)).2 _ (by omega), ih _ (by simp at hl ⊢; omega) (fun x h => hx x (List.mem_cons_of_mem _ (List.mem_of_mem_drop h)))]
      rw [List.replicate_succ]
      show v :: (_ ++ _) = _
      rw [← lead_take v t]
theorem many_pos {st : St} (h : Fine st) : 1 ≤ many st ∧ many st ≤ 138 := by
  obtain ⟨s, x, b⟩ := st
  obtain ⟨h0, h1, h2, h3, h4⟩ := h
  simp only at h0 h1 h2 h3 h4
  subst h4
  simp only [many, base]
  unfold wid at h3
  split <;> (try split) <;> (try split) <;> simp_all <;> omega
theorem play_len (l : List St) (h : ∀ st ∈ l, Fine st) : ∀ last, l.length ≤ (play last l).length := by
  induction l with
  | nil => intro _; exact Nat.le_refl _
  | cons st t ih =>
    intro last
    have h1 := many_pos (h st (by simp))
    have h2 := ih (fun x hx => h x (List.mem_cons_of_mem _ hx)) (lastOf last st)
    show _ ≤ (List.replicate (many st) (val last st) ++ play (lastOf last st) t).length
    rw [List.length_append, List.length_replicate, List.length_cons]; omega
end Go.Proofs.Ytbljoihnjhllhaa.Lw

/- Plain: how long a run of one length is, told by going on while the next is alike. -/
namespace Go.Proofs.Ytbljoihnjhllhaa.Lw

theorem lead_next (v : Int) : ∀ (l : List Int) (m : Nat), m ≤ lead v l → l[m]? = some v → m + 1 ≤ lead v l := by
  intro l
  induction l with
  | nil => intro m _ h; simp at h
  | cons x t ih =>
    intro m hm h
    cases m with
    | zero =>
      have e : x = v := by simpa using h
      unfold lead; rw [if_pos e]; omega
    | succ m =>
      unfold lead at hm ⊢
      by_cases e : x = v
      · rw [if_pos e] at hm ⊢
        have := ih m (by omega) (by simpa using h)
        omega
      · rw [if_neg e] at hm; omega
theorem lead_stop (v : Int) : ∀ (l : List Int) (m : Nat), m ≤ lead v l → l[m]? ≠ some v → lead v l = m := by
  intro l
  induction l with
  | nil => intro m hm _; have : lead v [] = 0 := rfl; omega
  | cons x t ih =>
    intro m hm h
    cases m with
    | zero =>
      have e : x ≠ v := by simpa using h
      unfold lead; rw [if_neg e]
    | succ m =>
      unfold lead at hm ⊢
      by_cases e : x = v
      · rw [if_pos e] at hm ⊢
        rw [ih m (by omega) (by simpa using h)]
      · rw [if_neg e] at hm; omega
theorem lead_all {v : Int} {l : List Int} {m : Nat} (h : m ≤ lead v l) (i : Nat) (hi : i < m) : l[i]? = some v := by
  induction l generalizing m i with
  | nil => have e : lead v [] = 0 := rfl; omega
  | cons x t ih =>
    unfold lead at h
    by_cases e : x = v
    · rw [if_pos e] at h
      cases i with
      | zero => simp [e]
      | succ i => simpa using ih (m := m - 1) (by omega) i (by omega)
    · rw [if_neg e] at h; omega
/-- The steps of a list from its first run on. -/
theorem steps_run {ls : List Int} {j m : Nat} (hj : j < ls.length) (hm : m = lead (ls.getD j 0) (ls.drop (j + 1))) : steps (ls.drop j) = runS (ls.getD j 0) (m + 1) ++ steps (ls.drop (j + (m + 1))) := by
  have e : ls.drop j = ls.getD j 0 :: ls.drop (j + 1) := by
    rw [List.drop_eq_getElem_cons hj, List.getD_eq_getElem?_getD, List.getElem?_eq_getElem hj]; rfl
  rw [e, steps_cons, ← hm, List.drop_drop]
  congr 3
  omega
end Go.Proofs.Ytbljoihnjhllhaa.Lw

/- Plain arithmetic of bits in bytes: no program in sight. -/
namespace Go.Proofs.Ytbljoihnjhllhaa

/-- Bit i of bytes, of each byte the lowest first. -/
def bitAt (bs : List Int) (i : Nat) : Int := (bs[i / 8]?.getD 0) / 2 ^ (i % 8) % 2
/-- n bits from p on as a number, the first one lowest. -/
def bitsVal (bs : List Int) (p : Nat) : Nat → Int
  | 0 => 0
  | n + 1 => bitsVal bs p n + bitAt bs (p + n) * 2 ^ n

theorem bitAt_bounds (bs : List Int) (i : Nat) : 0 ≤ bitAt bs i ∧ bitAt bs i ≤ 1 := by unfold bitAt; omega
theorem bitsVal_nonneg (bs : List Int) (p n : Nat) : 0 ≤ bitsVal bs p n := by
  induction n with
  | zero => simp [bitsVal]
  | succ n ih =>
    have h := bitAt_bounds bs (p + n)
    have h2 : (0 : Int) ≤ 2 ^ n := by exact_mod_cast Nat.zero_le _
    have := Int.mul_nonneg h.1 h2
    simp only [bitsVal]; omega
theorem bitsVal_lt (bs : List Int) (p n : Nat) : bitsVal bs p n < 2 ^ n := by
  induction n with
  | zero => simp [bitsVal]
  | succ n ih =>
    have h := bitAt_bounds bs (p + n)
    have h2 : (0 : Int) ≤ 2 ^ n := by exact_mod_cast Nat.zero_le _
    have := Int.mul_le_mul_of_nonneg_right h.2 h2
    simp only [bitsVal, Int.pow_succ]; omega

theorem bitsVal_add (bs : List Int) (p m n : Nat) : bitsVal bs p (m + n) = bitsVal bs p m + bitsVal bs (p + m) n * 2 ^ m := by
  induction n with
  | zero => simp [bitsVal]
  | succ n ih =>
    rw [← Nat.add_assoc, bitsVal, ih, bitsVal, Int.add_mul, Int.add_assoc, Int.mul_assoc, ← Int.pow_add, Nat.add_assoc p m n, Nat.add_comm n m]

theorem emod_two_mul (y a : Int) (ha : 0 ≤ a) : y % (a * 2) = y % a + y / a % 2 * a := by
  rw [Int.emod_def, Int.emod_def y a, Int.emod_def (y / a) 2, ← Int.ediv_ediv_of_nonneg ha, Int.sub_mul]
  have : 2 * (y / a / 2) * a = a * 2 * (y / a / 2) := by rw [Int.mul_comm a 2, Int.mul_right_comm]
  rw [this, Int.mul_comm a (y / a)]
  omega
/-- Of one byte. -/
theorem bitsVal_byte (bs : List Int) (p t : Nat) (h : p % 8 + t ≤ 8) : bitsVal bs p t = (bs[p / 8]?.getD 0) / 2 ^ (p % 8) % 2 ^ t := by
  induction t with
  | zero => simp [bitsVal, Int.emod_one]
  | succ t ih =>
    rw [bitsVal, ih (by omega)]
    have hq : (p + t) / 8 = p / 8 := by omega
    have hr : (p + t) % 8 = p % 8 + t := by omega
    unfold bitAt
    rw [hq, hr, Int.pow_add]
    generalize (bs[p / 8]?.getD 0) = x
    have hd : x / (2 ^ (p % 8) * 2 ^ t) = x / 2 ^ (p % 8) / 2 ^ t := by
      rw [Int.ediv_ediv_of_nonneg]
      exact_mod_cast Nat.zero_le _
    rw [hd]
    generalize x / 2 ^ (p % 8) = y
    exact (emod_two_mul y (2 ^ t) (by exact_mod_cast Nat.zero_le _)).symm

theorem bitsVal_drop (bs : List Int) (k p n : Nat) : bitsVal (bs.drop k) p n = bitsVal bs (8 * k + p) n := by
  induction n with
  | zero => rfl
  | succ n ih =>
    simp only [bitsVal, ih]
    congr 2
    unfold bitAt
    have h1 : (8 * k + p + n) / 8 = k + (p + n) / 8 := by omega
    have h2 : (8 * k + p + n) % 8 = (p + n) % 8 := by omega
    rw [h1, h2, List.getElem?_drop]
theorem bitsVal_take (bs : List Int) (k p n : Nat) (h : p + n ≤ 8 * k) : bitsVal (bs.take k) p n = bitsVal bs p n := by
  induction n with
  | zero => rfl
  | succ n ih =>
    simp only [bitsVal, ih (by omega)]
    congr 2
    unfold bitAt
    rw [List.getElem?_take_of_lt (by omega)]

/-- OR of a number below 2^j and a multiple of 2^j is their sum. -/
theorem or_shift (v y : Nat) (j : Nat) (h : v < 2 ^ j) : v ||| (y <<< j) = v + y * 2 ^ j := by
  rw [Nat.or_comm, Nat.shiftLeft_eq, ← Nat.shiftLeft_eq, ← Nat.shiftLeft_add_eq_or_of_lt h, Nat.shiftLeft_eq]; omega
end Go.Proofs.Ytbljoihnjhllhaa

/- Plain theory of bits as bytes: writing. No program in sight. -/
namespace Go.Proofs.Ytbljoihnjhllhaa

def bl (l : List Int) (i : Nat) : Int := l[i]?.getD 0
def lv (l : List Int) (p : Nat) : Nat → Int
  | 0 => 0
  | n + 1 => lv l p n + bl l (p + n) * 2 ^ n
def IsBits (l : List Int) : Prop := ∀ x ∈ l, 0 ≤ x ∧ x ≤ 1
theorem bl_bounds {l : List Int} (h : IsBits l) (i : Nat) : 0 ≤ bl l i ∧ bl l i ≤ 1 := by
  unfold bl
  by_cases hi : i < l.length
  · rw [List.getElem?_eq_getElem hi]; exact h _ (List.getElem_mem _)
  · rw [List.getElem?_eq_none (by omega)]; simp
theorem lv_bounds {l : List Int} (h : IsBits l) (p n : Nat) : 0 ≤ lv l p n ∧ lv l p n < 2 ^ n := by
  induction n with
  | zero => simp [lv]
  | succ n ih =>
    have h1 := bl_bounds h (p + n)
    have h2 : (0 : Int) ≤ 2 ^ n := by exact_mod_cast Nat.zero_le _
    have h3 := Int.mul_le_mul_of_nonneg_right h1.2 h2
    have h4 := Int.mul_nonneg h1.1 h2
    simp only [lv, Int.pow_succ]; omega
theorem bl_app_old (l : List Int) (b : Int) (i : Nat) (h : i < l.length) : bl (l ++ [b]) i = bl l i := by unfold bl; rw [List.getElem?_append_left h]
theorem bl_app_new (l : List Int) (b : Int) : bl (l ++ [b]) l.length = b := by unfold bl; rw [List.getElem?_append_right (Nat.le_refl _)]; simp
theorem bl_out (l : List Int) (i : Nat) (h : l.length ≤ i) : bl l i = 0 := by unfold bl; rw [List.getElem?_eq_none h]; rfl
theorem lv_app_old (l : List Int) (b : Int) (p n : Nat) (h : p + n ≤ l.length) : lv (l ++ [b]) p n = lv l p n := by
  induction n with
  | zero => rfl
  | succ n ih => simp only [lv, ih (by omega), bl_app_old l b (p + n) (by omega)]
theorem lv_end (l : List Int) (p n m : Nat) (h : l.length ≤ p + n) (hm : n ≤ m) : lv l p m = lv l p n := by
  induction m with
  | zero => rw [show n = 0 by omega]
  | succ m ih =>
    by_cases e : n = m + 1
    · rw [e]
    · simp only [lv, ih (by omega), bl_out l (p + m) (by omega)]; simp
def byteAt (l : List Int) (i : Nat) : Int := lv l (8 * i) 8
def packB (l : List Int) : List Int := (List.range ((l.length + 7) / 8)).map (byteAt l)
theorem packB_length (l : List Int) : (packB l).length = (l.length + 7) / 8 := by simp [packB]
theorem packB_get (l : List Int) (i : Nat) (h : i < (l.length + 7) / 8) : (packB l)[i]? = some (byteAt l i) := by
  simp [packB, List.getElem?_map, List.getElem?_range h]
theorem packB_nil : packB [] = [] := rfl
/-- The last byte, and a bit more. -/
theorem byteAt_next (l : List Int) (b : Int) : byteAt (l ++ [b]) (l.length / 8) = byteAt l (l.length / 8) + b * 2 ^ (l.length % 8) := by
  unfold byteAt
  have h1 : lv l (8 * (l.length / 8)) 8 = lv l (8 * (l.length / 8)) (l.length % 8) := lv_end l _ _ _ (by omega) (by omega)
  have h2 : lv (l ++ [b]) (8 * (l.length / 8)) 8 = lv (l ++ [b]) (8 * (l.length / 8)) (l.length % 8 + 1) := lv_end _ _ _ _ (by simp; omega) (by omega)
  rw [h1, h2]
  show lv (l ++ [b]) (8 * (l.length / 8)) (l.length % 8) + bl (l ++ [b]) (8 * (l.length / 8) + l.length % 8) * 2 ^ (l.length % 8) = _
  rw [lv_app_old l b _ _ (by omega), show 8 * (l.length / 8) + l.length % 8 = l.length from by omega, bl_app_new]
theorem byteAt_old (l : List Int) (b : Int) (i : Nat) (_ : i ≠ l.length / 8) (hi : i < l.length / 8) : byteAt (l ++ [b]) i = byteAt l i := by
  unfold byteAt
  exact lv_app_old l b _ _ (by omega)
/-- A bit more, behind a byte that is not full. -/
theorem packB_more (l : List Int) (b : Int) (h : l.length % 8 ≠ 0) : (packB l).set (l.length / 8) (byteAt l (l.length / 8) + b * 2 ^ (l.length % 8)) = packB (l ++ [b]) := by
  apply List.ext_getElem?
  intro i
  have hlen : ((l ++ [b]).length + 7) / 8 = (l.length + 7) / 8 := by simp; omega
  by_cases hi : i < (l.length + 7) / 8
  · rw [packB_get _ i (by rw [hlen]; exact hi), List.getElem?_set, packB_get _ i hi, packB_length]
    by_cases e : l.length / 8 = i
    · rw [if_pos e, if_pos (by omega), ← e, byteAt_next]
    · rw [if_neg e, byteAt_old l b i (fun h => e h.symm) (by omega)]
  · rw [List.getElem?_eq_none (by rw [List.length_set, packB_length]; omega), List.getElem?_eq_none (by rw [packB_length, hlen]; omega)]
/-- A bit more, in a new byte. -/
theorem packB_new (l : List Int) (b : Int) (h : l.length % 8 = 0) : (packB l ++ [0]).set (l.length / 8) b = packB (l ++ [b]) := by
  apply List.ext_getElem?
  intro i
  have hlen : ((l ++ [b]).length + 7) / 8 = (l.length + 7) / 8 + 1 := by simp; omega
  have e8 : (l.length + 7) / 8 = l.length / 8 := by omega
  by_cases hi : i < (l.length + 7) / 8 + 1
  · rw [packB_get _ i (by rw [hlen]; exact hi), List.getElem?_set]
    by_cases e : l.length / 8 = i
    · rw [if_pos e, if_pos (by simp [packB_length]; omega), ← e, byteAt_next, h]
      have : byteAt l (l.length / 8) = 0 := by
        unfold byteAt
        exact lv_end l (8 * (l.length / 8)) 0 8 (by omega) (by omega)
      rw [this]; simp
    · rw [if_neg e, byteAt_old l b i (fun h => e h.symm) (by omega), List.getElem?_append_left (by rw [packB_length]; omega), packB_get _ i (by omega)]
  · rw [List.getElem?_eq_none (by simp [packB_length]; omega), List.getElem?_eq_none (by rw [packB_length, hlen]; omega)]
theorem byteAt_bounds {l : List Int} (h : IsBits l) (i : Nat) : 0 ≤ byteAt l i ∧ byteAt l i ≤ 255 := by have := lv_bounds h (8 * i) 8; unfold byteAt; omega
theorem packB_bytes {l : List Int} (h : IsBits l) : ∀ x ∈ packB l, 0 ≤ x ∧ x ≤ 255 := by
  intro x hx
  unfold packB at hx
  rw [List.mem_map] at hx
  obtain ⟨i, _, rfl⟩ := hx
  exact byteAt_bounds h i
theorem byteAt_low {l : List Int} (h : IsBits l) : byteAt l (l.length / 8) < 2 ^ (l.length % 8) := by
  unfold byteAt
  rw [lv_end l (8 * (l.length / 8)) (l.length % 8) 8 (by omega) (by omega)]
  exact (lv_bounds h _ _).2
theorem lv_split {l : List Int} (h : IsBits l) (p : Nat) : ∀ n k, k < n → lv l p n / 2 ^ k % 2 = bl l (p + k) := by
  intro n
  induction n with
  | zero => intro k hk; omega
  | succ n ih =>
    intro k hk
    have hb := bl_bounds h (p + n)
    by_cases e : k = n
    · subst e
      simp only [lv]
      have h1 := lv_bounds h p k
      have hp : (0 : Int) < 2 ^ k := by exact_mod_cast Nat.two_pow_pos k
      rw [Int.add_mul_ediv_right _ _ (by omega), Int.ediv_eq_zero_of_lt h1.1 h1.2]; omega
    · have := ih k (by omega)
      simp only [lv]
      have hp : (0 : Int) < 2 ^ k := by exact_mod_cast Nat.two_pow_pos k
      have e2 : bl l (p + n) * 2 ^ n = (bl l (p + n) * 2 ^ (n - k - 1) * 2) * 2 ^ k := by
        rw [show n = (n - k - 1) + 1 + k from by omega, Int.pow_add, Int.pow_succ]
        rw [show n - k - 1 + 1 + k - k - 1 = n - k - 1 from by omega]
        simp only [Int.mul_assoc]
      rw [e2, Int.add_mul_ediv_right _ _ (by omega)]
      omega
/-- The bits of written bytes. -/
theorem bitAt_pack {l : List Int} (h : IsBits l) (i : Nat) : bitAt (packB l) i = bl l i := by
  unfold bitAt
  by_cases hi : i / 8 < (l.length + 7) / 8
  · rw [packB_get l _ hi]
    show byteAt l (i / 8) / 2 ^ (i % 8) % 2 = _
    unfold byteAt
    rw [lv_split h _ 8 (i % 8) (by omega), show 8 * (i / 8) + i % 8 = i from by omega]
  · rw [List.getElem?_eq_none (by rw [packB_length]; omega), bl_out l i (by omega)]
    simp
/-- A number's n lowest bits, the first one lowest. -/
def bitsOf (v : Int) (n : Nat) : List Int := (List.range n).map (fun k => v / 2 ^ k % 2)
theorem bitsOf_length (v : Int) (n : Nat) : (bitsOf v n).length = n := by simp [bitsOf]
theorem bitsOf_succ (v : Int) (n : Nat) : bitsOf v (n + 1) = bitsOf v n ++ [v / 2 ^ n % 2] := by simp [bitsOf, List.range_succ]
theorem bitsOf_bits (v : Int) (n : Nat) : IsBits (bitsOf v n) := by
  intro x hx
  unfold bitsOf at hx
  rw [List.mem_map] at hx
  obtain ⟨k, _, rfl⟩ := hx
  omega
theorem IsBits.app {l m : List Int} (h : IsBits l) (k : IsBits m) : IsBits (l ++ m) := by
  intro x hx
  rcases List.mem_append.1 hx with h1 | h1
  · exact h x h1
  · exact k x h1
end Go.Proofs.Ytbljoihnjhllhaa

/- Plain theory of stable sorting by a whole-number key: no program in sight. -/
namespace Go.Proofs.Ytbljoihnjhllhaa.Srt
variable {α : Type}

/-- Sorted by key. -/
def Sorted (key : α → Int) (l : List α) : Prop := l.Pairwise fun x y => key x ≤ key y
/-- The same elements, those of one key in the same order. -/
def FEq (key : α → Int) (l l' : List α) : Prop := ∀ k, l.filter (fun x => key x == k) = l'.filter (fun x => key x == k)

theorem FEq.refl (key : α → Int) (l : List α) : FEq key l l := fun _ => rfl
theorem FEq.symm {key : α → Int} {l l' : List α} (h : FEq key l l') : FEq key l' l := fun k => (h k).symm
theorem FEq.trans {key : α → Int} {a b c : List α} (h : FEq key a b) (h' : FEq key b c) : FEq key a c := fun k => (h k).trans (h' k)
theorem FEq.app {key : α → Int} {a b c d : List α} (h : FEq key a b) (h' : FEq key c d) : FEq key (a ++ c) (b ++ d) := fun k => by rw [List.filter_append, List.filter_append, h k, h' k]
theorem FEq.mem {key : α → Int} {a b : List α} (h : FEq key a b) (x : α) : x ∈ a ↔ x ∈ b := by
  have h1 : ∀ l : List α, x ∈ l ↔ x ∈ l.filter (fun y => key y == key x) := fun l => by simp
  rw [h1 a, h1 b, h (key x)]
theorem FEq.swap {key : α → Int} (u v : List α) (h : ∀ x ∈ u, ∀ y ∈ v, key x ≠ key y) : FEq key (u ++ v) (v ++ u) := fun k => by
  rw [List.filter_append, List.filter_append]
  by_cases hu : u.filter (fun x => key x == k) = []
  · rw [hu]; simp
  · have : v.filter (fun x => key x == k) = [] := by
      obtain ⟨x, hx⟩ := List.exists_mem_of_ne_nil _ hu
      rw [List.filter_eq_nil_iff]
      intro y hy hk
      rw [List.mem_filter] at hx
      simp at hx hk
      exact h x hx.1 y hy (by omega)
    rw [this]; simp
theorem FEq.length {key : α → Int} : ∀ {a b : List α}, FEq key a b → a.length = b.length := by
  intro a
  induction a with
  | nil =>
    intro b h
    cases b with
    | nil => rfl
    | cons y b => have := (h.mem y).2 (by simp); simp at this
  | cons x a ih =>
    intro b h
    obtain ⟨s, t, rfl, hs⟩ : ∃ s t, b = s ++ x :: t ∧ ∀ y ∈ s, key y ≠ key x := by
      have hk := h (key x)
      have hx : (x :: a).filter (fun y => key y == key x) = x :: a.filter (fun y => key y == key x) := by simp
      rw [hx] at hk
      clear ih hx h
      induction b with
      | nil => simp at hk
      | cons y b ihb =>
        by_cases hy : key y = key x
        · have : (y :: b).filter (fun z => key z == key x) = y :: b.filter (fun z => key z == key x) := by simp [hy]
          rw [this] at hk
          injection hk with h1 h2
          subst h1
          exact ⟨[], b, rfl, by simp⟩
        · have : (y :: b).filter (fun z => key z == key x) = b.filter (fun z => key z == key x) := by simp [hy]
          rw [this] at hk
          obtain ⟨s, t, rfl, hs⟩ := ihb hk
          exact ⟨y :: s, t, rfl, by simp; exact ⟨hy, hs⟩⟩
    have : FEq key a (s ++ t) := fun k => by
      have := h k
      by_cases hk : key x = k
      · subst hk
        simp only [List.filter_cons, List.filter_append, beq_self_eq_true, if_true] at this
        have hs0 : s.filter (fun y => key y == key x) = [] := by rw [List.filter_eq_nil_iff]; intro y hy h1; exact hs y hy (by simpa using h1)
        rw [hs0] at this
        simp only [List.nil_append, List.cons.injEq, true_and] at this
        rw [List.filter_append, hs0, List.nil_append]
        exact this
      · simpa [List.filter_cons, hk] using this
    have := ih this
    simp only [List.length_append, List.length_cons] at this ⊢
    omega

/-- Two sorted lists of the same elements in this sense are one. -/
theorem sorted_unique {key : α → Int} : ∀ {a b : List α}, Sorted key a → Sorted key b → FEq key a b → a = b := by
  intro a
  induction a with
  | nil => intro b _ _ h; have := h.length; cases b with | nil => rfl | cons => simp at this
  | cons x a ih =>
    intro b ha hb h
    cases b with
    | nil => have := h.length; simp at this
    | cons y b =>
      unfold Sorted at ha hb
      rw [List.pairwise_cons] at ha hb
      have h1 : key y ≤ key x := by
        have := (h.mem x).1 (by simp)
        rcases List.mem_cons.1 this with e | e
        · rw [e]; omega
        · exact hb.1 x e
      have h2 : key x ≤ key y := by
        have := (h.mem y).2 (by simp)
        rcases List.mem_cons.1 this with e | e
        · rw [e]; omega
        · exact ha.1 y e
      have hk : key x = key y := by omega
      have h3 := h (key x)
      simp only [List.filter_cons, beq_self_eq_true, if_true, hk] at h3
      injection h3 with e _
      subst e
      rw [ih ha.2 hb.2 (fun k => ?_)]
      have := h k
      by_cases hkk : key x = k
      · simpa [List.filter_cons, hkk] using this
      · simpa [List.filter_cons, hkk] using this

/-- Two neighbours change places. -/
theorem swap_adj (p q : List α) (x y : α) (i j : Nat) (hi : i = p.length) (hj : j = p.length + 1) : ((p ++ x :: y :: q).set j x).set i y = p ++ y :: x :: q := by
  subst hi hj
  rw [List.set_append_right _ _ (by omega), show p.length + 1 - p.length = 1 from by omega, List.set_append_right _ _ (by omega), Nat.sub_self]
  rfl
theorem swap_adj' (p q : List α) (x y : α) (i j : Nat) (hi : i = p.length) (hj : j = p.length + 1) : ((p ++ x :: y :: q).set i y).set j x = p ++ y :: x :: q := by
  subst hi hj
  rw [List.set_append_right _ _ (by omega), Nat.sub_self, List.set_append_right _ _ (by omega), show p.length + 1 - p.length = 1 from by omega]
  rfl
/-- Two elements change places. -/
theorem swap_far (p q r : List α) (x y : α) (i j : Nat) (hi : i = p.length) (hj : j = p.length + 1 + q.length) : ((p ++ x :: q ++ y :: r).set i y).set j x = p ++ y :: q ++ x :: r := by
  subst hi hj
  rw [List.append_assoc, List.set_append_right _ _ (by omega), Nat.sub_self, List.set_append_right _ _ (by omega), show p.length + 1 + q.length - p.length = q.length + 1 from by omega]
  simp only [List.cons_append, List.set_cons_zero, List.set_cons_succ]
  rw [List.set_append_right _ _ (by omega), Nat.sub_self]
  simp
theorem swap_far' (p q r : List α) (x y : α) (i j : Nat) (hi : i = p.length) (hj : j = p.length + 1 + q.length) : ((p ++ x :: q ++ y :: r).set j x).set i y = p ++ y :: q ++ x :: r := by
  rw [List.set_comm _ _ (by omega), swap_far p q r x y i j hi hj]

theorem get_mid (p q : List α) (x : α) (i : Nat) (hi : i = p.length) : (p ++ x :: q)[i]? = some x := by
  subst hi; simp
/-- One step of an exchange of two ranges. -/
theorem range_step (p u q v r : List α) (k i j : Nat) (hk : k < u.length) (huv : u.length = v.length) (hi : i = p.length + k) (hj : j = p.length + u.length + q.length + k) :
    ∃ x y, (p ++ (v.take k ++ u.drop k) ++ q ++ (u.take k ++ v.drop k) ++ r)[i]? = some x ∧ (p ++ (v.take k ++ u.drop k) ++ q ++ (u.take k ++ v.drop k) ++ r)[j]? = some y ∧
      ((p ++ (v.take k ++ u.drop k) ++ q ++ (u.take k ++ v.drop k) ++ r).set i y).set j x = p ++ (v.take (k + 1) ++ u.drop (k + 1)) ++ q ++ (u.take (k + 1) ++ v.drop (k + 1)) ++ r := by
  have hkv : k < v.length := by omega
  have e : p ++ (v.take k ++ u.drop k) ++ q ++ (u.take k ++ v.drop k) ++ r = (p ++ v.take k) ++ u[k] :: (u.drop (k + 1) ++ q ++ u.take k) ++ v[k] :: (v.drop (k + 1) ++ r) := by
    rw [List.drop_eq_getElem_cons hk, List.drop_eq_getElem_cons hkv]
    simp only [List.append_assoc, List.cons_append]
  have l1 : (p ++ v.take k).length = p.length + k := by rw [List.length_append, List.length_take]; omega
  have l2 : (u.drop (k + 1) ++ q ++ u.take k).length = (u.length - (k + 1)) + q.length + k := by
    simp only [List.length_append, List.length_drop, List.length_take]; omega
  refine ⟨u[k], v[k], ?_, ?_, ?_⟩
  · rw [e, List.append_assoc, List.cons_append]
    exact get_mid _ _ _ _ (by omega)
  · rw [e]
    refine get_mid _ _ _ _ ?_
    rw [List.length_append, List.length_cons, l1, l2]; omega
  · rw [e, swap_far _ _ _ _ _ _ _ (by omega) (by omega), List.take_succ_eq_append_getElem hk, List.take_succ_eq_append_getElem hkv]
    simp only [List.append_assoc, List.cons_append, List.nil_append]

theorem sorted_app {key : α → Int} {a b : List α} : Sorted key (a ++ b) ↔ Sorted key a ∧ Sorted key b ∧ ∀ x ∈ a, ∀ y ∈ b, key x ≤ key y := List.pairwise_append
/-- An element that is less than all behind it, and no less than all ahead of it, is in its place. -/
theorem insert_done {key : α → Int} {L R : List α} {x : α} (h : Sorted key (L ++ R)) (h1 : ∀ y ∈ R, key x < key y) (h2 : ∀ y ∈ L, key y ≤ key x) : Sorted key (L ++ x :: R) := by
  rw [sorted_app] at h ⊢
  refine ⟨h.1, ?_, fun y hy z hz => ?_⟩
  · exact List.pairwise_cons.2 ⟨fun y hy => Int.le_of_lt (h1 y hy), h.2.1⟩
  · rcases List.mem_cons.1 hz with e | e
    · rw [e]; exact h2 y hy
    · exact h.2.2 y hy z e
/-- No less than the last of what is sorted is no less than all. -/
theorem last_le {key : α → Int} {L : List α} {y x : α} (h : Sorted key (L ++ [y])) (hx : key y ≤ key x) : ∀ z ∈ L ++ [y], key z ≤ key x := by
  intro z hz
  rw [sorted_app] at h
  rcases List.mem_append.1 hz with e | e
  · exact Int.le_trans (h.2.2 z e y (by simp)) hx
  · rw [List.mem_singleton.1 e]; exact hx
theorem FEq.step {key : α → Int} (L R : List α) (x y : α) (h : key x < key y) : FEq key (L ++ y :: x :: R) (L ++ x :: y :: R) := by
  have := (FEq.refl key L).app ((FEq.swap (key := key) [y] [x] (by simp; omega)).app (FEq.refl key R))
  simpa using this
theorem sorted_mid {key : α → Int} {L R : List α} {y : α} (h : Sorted key ((L ++ [y]) ++ R)) : Sorted key (L ++ (y :: R)) := by simpa using h

theorem sorted_take {key : α → Int} {l : List α} {y : α} {t : Nat} (h : Sorted key l) (hy : l[t]? = some y) : ∀ z ∈ l.take (t + 1), key z ≤ key y := by
  intro z hz
  have ht : t < l.length := (List.getElem?_eq_some_iff.1 hy).1
  rw [List.take_add_one, hy] at hz
  have hs : Sorted key (l.take t ++ l.drop t) := by rwa [List.take_append_drop]
  rw [sorted_app] at hs
  rcases List.mem_append.1 hz with e | e
  · exact hs.2.2 z e y (by rw [List.drop_eq_getElem_cons ht, (List.getElem?_eq_some_iff.1 hy).2]; simp)
  · simp at e; rw [e]; exact Int.le_refl _
theorem sorted_drop {key : α → Int} {l : List α} {y : α} {t : Nat} (h : Sorted key l) (hy : l[t]? = some y) : ∀ z ∈ l.drop t, key y ≤ key z := by
  intro z hz
  have ht : t < l.length := (List.getElem?_eq_some_iff.1 hy).1
  have hs : Sorted key (l.drop t) := List.Pairwise.sublist (List.drop_sublist t l) h
  rw [List.drop_eq_getElem_cons ht, (List.getElem?_eq_some_iff.1 hy).2] at hs hz
  rcases List.mem_cons.1 hz with e | e
  · rw [e]; exact Int.le_refl _
  · exact (List.pairwise_cons.1 hs).1 z e
/-- x moved behind the first t of l, all less than x, the others no less. -/
theorem move_right {key : α → Int} {l : List α} {x : α} {t : Nat} (h : Sorted key l) (h1 : ∀ y ∈ l.take t, key y < key x) (h2 : ∀ y ∈ l.drop t, key x ≤ key y) :
    Sorted key (l.take t ++ x :: l.drop t) ∧ FEq key (x :: l) (l.take t ++ x :: l.drop t) := by
  have hs : Sorted key (l.take t ++ l.drop t) := by rwa [List.take_append_drop]
  rw [sorted_app] at hs
  refine ⟨sorted_app.2 ⟨hs.1, List.pairwise_cons.2 ⟨h2, hs.2.1⟩, fun y hy z hz => ?_⟩, ?_⟩
  · rcases List.mem_cons.1 hz with e | e
    · rw [e]; exact Int.le_of_lt (h1 y hy)
    · exact hs.2.2 y hy z e
  · have h3 := (FEq.swap (key := key) [x] (l.take t) (by simp only [List.mem_singleton, forall_eq]; intro y hy; have := h1 y hy; omega)).app (FEq.refl key (l.drop t))
    simpa using h3
/-- x moved ahead of all of l but the first t, all greater than x, the others no greater. -/
theorem move_left {key : α → Int} {l : List α} {x : α} {t : Nat} (h : Sorted key l) (h1 : ∀ y ∈ l.take t, key y ≤ key x) (h2 : ∀ y ∈ l.drop t, key x < key y) :
    Sorted key (l.take t ++ x :: l.drop t) ∧ FEq key (l ++ [x]) (l.take t ++ x :: l.drop t) := by
  have hs : Sorted key (l.take t ++ l.drop t) := by rwa [List.take_append_drop]
  rw [sorted_app] at hs
  refine ⟨sorted_app.2 ⟨hs.1, List.pairwise_cons.2 ⟨fun y hy => Int.le_of_lt (h2 y hy), hs.2.1⟩, fun y hy z hz => ?_⟩, ?_⟩
  · rcases List.mem_cons.1 hz with e | e
    · rw [e]; exact h1 y hy
    · exact hs.2.2 y hy z e
  · have h3 := (FEq.refl key (l.take t)).app (FEq.swap (key := key) (l.drop t) [x] (by intro y hy z hz; rw [List.mem_singleton.1 hz]; have := h2 y hy; omega))
    have e : l ++ [x] = l.take t ++ (l.drop t ++ [x]) := by rw [← List.append_assoc, List.take_append_drop]
    rw [e]; simpa using h3
/-- What a symmetrical merge puts together. -/
theorem merge_join {key : α → Int} {u1 u2 v1 v2 L R : List α} (hu : Sorted key (u1 ++ u2)) (hv : Sorted key (v1 ++ v2)) (h1 : ∀ x ∈ u1, ∀ y ∈ v2, key x ≤ key y) (h2 : ∀ x ∈ u2, ∀ y ∈ v1, key y < key x)
    (hL : Sorted key L) (hR : Sorted key R) (eL : FEq key (u1 ++ v1) L) (eR : FEq key (u2 ++ v2) R) : Sorted key (L ++ R) ∧ FEq key ((u1 ++ u2) ++ (v1 ++ v2)) (L ++ R) := by
  rw [sorted_app] at hu hv
  constructor
  · refine sorted_app.2 ⟨hL, hR, fun x hx y hy => ?_⟩
    rcases List.mem_append.1 ((eL.mem x).2 hx) with a | a <;> rcases List.mem_append.1 ((eR.mem y).2 hy) with b | b
    · exact hu.2.2 x a y b
    · exact h1 x a y b
    · exact Int.le_of_lt (h2 y b x a)
    · exact hv.2.2 x a y b
  · have h3 := (FEq.refl key u1).app ((FEq.swap (key := key) u2 v1 (by intro x hx y hy; have := h2 x hx y hy; omega)).app (FEq.refl key v2))
    have h4 := eL.app eR
    have e1 : (u1 ++ u2) ++ (v1 ++ v2) = u1 ++ ((u2 ++ v1) ++ v2) := by simp
    have e2 : u1 ++ ((v1 ++ u2) ++ v2) = (u1 ++ v1) ++ (u2 ++ v2) := by simp
    rw [e1]; exact h3.trans (by rw [e2]; exact h4)

/-- Runs of length bs, each sorted. -/
def Full (key : α → Int) (bs : Nat) (Rs : List (List α)) : Prop := ∀ s ∈ Rs, s.length = bs ∧ Sorted key s
theorem Full.nil (key : α → Int) (bs : Nat) : Full key bs [] := by intro s hs; simp at hs
theorem Full.snoc {key : α → Int} {bs : Nat} {Rs : List (List α)} (h : Full key bs Rs) {s : List α} (h1 : s.length = bs) (h2 : Sorted key s) : Full key bs (Rs ++ [s]) := by
  intro q hq
  rcases List.mem_append.1 hq with e | e
  · exact h q e
  · rw [List.mem_singleton.1 e]; exact ⟨h1, h2⟩
theorem Full.length {key : α → Int} {bs : Nat} {Rs : List (List α)} (h : Full key bs Rs) : Rs.flatten.length = Rs.length * bs := by
  induction Rs with
  | nil => simp
  | cons s Rs ih =>
    rw [List.flatten_cons, List.length_append, (h s (by simp)).1, ih (fun q hq => h q (by simp [hq])), List.length_cons, Nat.succ_mul]; omega
theorem Full.tail {key : α → Int} {bs : Nat} {s : List α} {Rs : List (List α)} (h : Full key bs (s :: Rs)) : Full key bs Rs := fun q hq => h q (by simp [hq])
/-- One run alone. -/
theorem Full.done {key : α → Int} {bs n : Nat} {Rs : List (List α)} {t : List α} (h : Full key bs Rs) (ht : Sorted key t) (hl : t.length < bs) (hn : (Rs.flatten ++ t).length = n) (hb : n ≤ bs) : Sorted key (Rs.flatten ++ t) := by
  rw [List.length_append, h.length] at hn
  match Rs, h, hn with
  | [], _, _ => simpa using ht
  | [s], h, hn =>
    have : t = [] := List.eq_nil_of_length_eq_zero (by simp at hn; omega)
    rw [this]; simpa using (h s (by simp)).2
  | s :: s' :: Rs, _, hn =>
    simp only [List.length_cons, Nat.succ_mul] at hn
    omega

theorem sorted_nil (key : α → Int) : Sorted key ([] : List α) := List.Pairwise.nil
theorem sorted_one (key : α → Int) (x : α) : Sorted key [x] := List.pairwise_singleton _ _
end Go.Proofs.Ytbljoihnjhllhaa.Srt
