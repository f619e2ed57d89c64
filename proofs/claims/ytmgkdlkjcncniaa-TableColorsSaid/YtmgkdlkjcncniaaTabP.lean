/- Plain theory of a picture's colours: a rising list, grown one by one. -/
namespace Go.Proofs.Ytmgkdlkjcncniaa.Tb

def ins (p : Int) : List Int → List Int
  | [] => [p]
  | x :: t => if x < p then x :: ins p t else if x = p then x :: t else p :: x :: t
def cols (ps : List Int) : List Int := ps.foldl (fun l p => ins p l) []
abbrev Up (l : List Int) : Prop := l.Pairwise (· < ·)

theorem mem_ins {p y : Int} : ∀ {l : List Int}, y ∈ ins p l ↔ y = p ∨ y ∈ l
  | [] => by simp [ins]
  | x :: t => by
    unfold ins
    split
    · rw [List.mem_cons, mem_ins, List.mem_cons]
      constructor <;> (intro h; rcases h with h | h | h <;> simp [h])
    · split
      · rename_i h; subst h; simp
      · simp
theorem up_ins {p : Int} : ∀ {l : List Int}, Up l → Up (ins p l)
  | [], _ => by simp [ins]
  | x :: t, h => by
    have ht := List.pairwise_cons.1 h
    unfold ins
    split
    · refine List.pairwise_cons.2 ⟨fun y hy => ?_, up_ins ht.2⟩
      rcases mem_ins.1 hy with rfl | hy
      · assumption
      · exact ht.1 y hy
    · split
      · exact h
      · refine List.pairwise_cons.2 ⟨fun y hy => ?_, h⟩
        rcases List.mem_cons.1 hy with rfl | hy
        · omega
        · have := ht.1 y hy; omega
theorem ins_same {p : Int} : ∀ {l : List Int}, Up l → p ∈ l → ins p l = l
  | [], _, h => by simp at h
  | x :: t, h, hp => by
    have ht := List.pairwise_cons.1 h
    unfold ins
    rcases List.mem_cons.1 hp with rfl | hp
    · simp
    · have := ht.1 p hp
      rw [if_pos this, ins_same ht.2 hp]
theorem ins_len {p : Int} : ∀ {l : List Int}, p ∉ l → (ins p l).length = l.length + 1
  | [], _ => rfl
  | x :: t, h => by
    have hx : x ≠ p := fun e => h (by simp [e])
    unfold ins
    split
    · simp [ins_len (p := p) (l := t) (fun hh => h (by simp [hh]))]
    · simp
theorem cols_snoc (ps : List Int) (p : Int) : cols (ps ++ [p]) = ins p (cols ps) := by simp [cols, List.foldl_append]
theorem up_cols (ps : List Int) : Up (cols ps) := by
  have h : ∀ (ps l : List Int), Up l → Up (ps.foldl (fun l p => ins p l) l) := by
    intro ps
    induction ps with
    | nil => intro l h; exact h
    | cons p ps ih => intro l h; exact ih _ (up_ins h)
  exact h ps [] List.Pairwise.nil
theorem mem_cols {ps : List Int} {y : Int} : y ∈ cols ps ↔ y ∈ ps := by
  have h : ∀ (ps l : List Int), y ∈ ps.foldl (fun l p => ins p l) l ↔ y ∈ l ∨ y ∈ ps := by
    intro ps
    induction ps with
    | nil => intro l; simp
    | cons p ps ih =>
      intro l
      rw [List.foldl_cons, ih, mem_ins, List.mem_cons]
      constructor
      · rintro ((h | h) | h) <;> simp [h]
      · rintro (h | h | h) <;> simp [h]
  have := h ps []
  simpa [cols] using this
theorem ins_len_ge (p : Int) : ∀ (l : List Int), l.length ≤ (ins p l).length
  | [] => by simp [ins]
  | x :: t => by
    unfold ins
    split
    · simp; exact ins_len_ge p t
    · split <;> simp
/-- Colours never get fewer. -/
theorem cols_mono (ps : List Int) (k : Nat) : (cols (ps.take k)).length ≤ (cols ps).length := by
  have h : ∀ (qs l : List Int), l.length ≤ (qs.foldl (fun l p => ins p l) l).length := by
    intro qs
    induction qs with
    | nil => intro l; exact Nat.le_refl _
    | cons p qs ih => intro l; exact Nat.le_trans (ins_len_ge p l) (ih _)
  have e : cols ps = (ps.drop k).foldl (fun l p => ins p l) (cols (ps.take k)) := by
    unfold cols
    rw [← List.foldl_append, List.take_append_drop]
  rw [e]; exact h _ _
/-- A rising list is sorted; whatever has the same elements, each once, is sorted into it. -/
theorem sort_same {l l' : List Int} (h : Up l) (hn : l'.Nodup) (hm : ∀ y, y ∈ l' ↔ y ∈ l) : l'.mergeSort (fun x y => decide (x ≤ y)) = l := by
  have hl : l.Nodup := h.imp (fun h => by omega)
  have hp : l'.Perm l := (List.perm_ext_iff_of_nodup hn hl).2 hm
  have hs : (l'.mergeSort (fun x y => decide (x ≤ y))).Pairwise (fun x y => x ≤ y) := by
    have := List.pairwise_mergeSort (le := fun x y : Int => decide (x ≤ y)) (by intro a b c h1 h2; simp at *; omega) (by intro a b; simp; omega) l'
    exact this.imp (fun h => by simpa using h)
  have hp2 : (l'.mergeSort (fun x y => decide (x ≤ y))).Perm l := (List.mergeSort_perm _ _).trans hp
  refine List.Perm.eq_of_pairwise (le := fun x y : Int => x ≤ y) ?_ hs (h.imp (fun h => by omega)) hp2
  intro a b _ _ h1 h2; omega
end Go.Proofs.Ytmgkdlkjcncniaa.Tb
