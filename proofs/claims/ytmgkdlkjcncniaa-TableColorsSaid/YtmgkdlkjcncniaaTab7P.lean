/- table.Pack where all may be: plain facts. -/
import Derived.Test.YtmgkdlkjcncniaaTab6
import Derived.Test.YtmgkdlkjcncniaaTabR
namespace Go.Proofs.Ytmgkdlkjcncniaa
open Go.RowKit Go.Maps
open Go.Proofs.YtmgkdlkjcncniaaW.PrintWords

/-- A pixel's number. -/
def pnum (ls ps : List Int) (t : Nat) : Nat := (fi ls (ps.getD t 0)).getD 0
def found (ls ps : List Int) (t : Nat) : Prop := (fi ls (ps.getD t 0)).isSome = true
theorem fi_lt : ∀ {ls : List Int} {p : Int} {i : Nat}, fi ls p = some i → i < ls.length
  | [], _, _, h => by cases h
  | x :: t, p, i, h => by
    unfold fi at h
    split at h
    · cases h; simp
    · obtain ⟨i', h1, h2⟩ := Option.map_eq_some_iff.1 h
      have := fi_lt h1
      simp; omega
theorem val_set {W V b t NN v : Nat} {N : Nat → Nat} (hW : 1 ≤ W) (hI : t / W * V + t % W / 2 ^ b < NN) (hv : v = Tb.val W V b N (t + 1) (t / W * V + t % W / 2 ^ b)) :
    ((List.range NN).map fun I => (Tb.val W V b N t I : Int)).set (t / W * V + t % W / 2 ^ b) (v : Int) = (List.range NN).map fun I => (Tb.val W V b N (t + 1) I : Int) := by
  apply List.ext_getElem?
  intro k
  rw [List.getElem?_set]
  by_cases hk : t / W * V + t % W / 2 ^ b = k
  · subst hk
    simp [hI, hv]
  · rw [if_neg hk, List.getElem?_map, List.getElem?_map]
    cases h : (List.range NN)[k]? with
    | none => rfl
    | some I =>
      have : I = k := by
        have := List.getElem?_eq_some_iff.1 h
        obtain ⟨h1, h2⟩ := this
        simpa using h2.symm
      subst this
      simp only [Option.map_some, Tb.val]
      rw [Tb.cellK_other hW (fun e => hk e.symm)]

/-- What table.Pack leaves where picture and table may be. -/
def packPost (W H V n : Nat) (ls ps : List Int) (b : Nat) (w : World) (e : Ending) (w' : World) : Prop :=
  Below w.heap.size w w' ∧
  ((∃ t, t < n ∧ fi ls (ps.getD t 0) = none ∧ e = .returned (.tuple #[.agg #[.int .i64 0, .int .i64 0, .slice none 0 0], .int .i64 1])) ∨
   ((∀ j, j < n → found ls ps j) ∧ ∃ g, w.heap.size ≤ g ∧ e = .returned (.tuple #[.agg #[.int .i64 V, .int .i64 H, .slice (some ⟨g, 0, none⟩) (V * H) (V * H)], .int .i64 0]) ∧
      ReadsInt w' .u32 (some ⟨g, 0, none⟩) (V * H) ((List.range (V * H)).map fun I => (Tb.val W V b (pnum ls ps) n I : Int))))

theorem pnum_lt {ls ps : List Int} {m : Nat} (hl : ls.length = m) (h2 : m ≤ 256) (k : Nat) : pnum ls ps k < 2 ^ (8 / 2 ^ bitsT m) := by
  have hm : m ≤ 2 ^ (8 / 2 ^ bitsT m) := by
    unfold bitsT
    split
    · simpa
    · split
      · simpa
      · split
        · simpa
        · simpa
  unfold pnum
  cases h : fi ls (ps.getD k 0) with
  | none => exact Nat.pow_pos (by decide)
  | some i => have := fi_lt h; simp; omega
theorem val_lt {W V b t I : Nat} {N : Nat → Nat} (h : ∀ k, N k < 2 ^ (8 / 2 ^ b)) : Tb.val W V b N t I < 4294967296 := by
  unfold Tb.val
  split
  · omega
  · have h1 := Tb.gs_lt (p0 := I / V * W + I % V * 2 ^ b) h (Tb.cellK W V b t I)
    have h2 : Tb.cellK W V b t I ≤ 2 ^ b := by unfold Tb.cellK; omega
    have h3 : Tb.cellK W V b t I * (8 / 2 ^ b) ≤ 8 := by
      have : Tb.cellK W V b t I * (8 / 2 ^ b) ≤ 2 ^ b * (8 / 2 ^ b) := Nat.mul_le_mul_right _ h2
      have h4 : 2 ^ b * (8 / 2 ^ b) ≤ 8 := Nat.mul_div_le _ _
      omega
    have h5 : 2 ^ (Tb.cellK W V b t I * (8 / 2 ^ b)) ≤ 2 ^ 8 := Nat.pow_le_pow_right (by decide) h3
    have : (2 : Nat) ^ 8 = 256 := by decide
    omega
end Go.Proofs.Ytmgkdlkjcncniaa
