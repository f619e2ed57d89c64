/- Plain theory of trees, second part: what is written is read again. No program in sight. -/
import Derived.Test.YtfeloicmkcfinaaDoorTreeP
import Derived.Test.YtfeloicmkcfinaaDoorTree4
namespace Go.Proofs.YtfeloicmkcfinaaDoor
open Go.RowKit
open Go.Proofs.YtfeloicmkcfinaaDoorW.PrintWords
open Srt

theorem codeBits_length (v : Int) (n : Nat) : (codeBits v n).length = n := by simp [codeBits]
theorem codeBits_bits (v : Int) (n : Nat) : IsBits (codeBits v n) := by
  intro x hx
  unfold codeBits at hx
  rw [List.mem_map] at hx
  obtain ⟨k, _, rfl⟩ := hx
  omega
theorem codeBits_get (v : Int) (n t : Nat) (h : t < n) : (codeBits v n)[t]? = some (v / 2 ^ (n - 1 - t) % 2) := by
  simp [codeBits, List.getElem?_map, List.getElem?_range h]
def sb (ls : List Int) (s : Nat) : List Int := codeBits (codeS ls s) (costS ls s).toNat
def sbs (ls : List Int) (T : List Nat) : List Int := T.flatMap (sb ls)
theorem sbs_app (ls : List Int) (T : List Nat) (s : Nat) : sbs ls (T ++ [s]) = sbs ls T ++ sb ls s := by simp [sbs]
theorem sbs_bits (ls : List Int) (T : List Nat) : IsBits (sbs ls T) := by
  intro x hx
  unfold sbs at hx
  rw [List.mem_flatMap] at hx
  obtain ⟨s, _, h⟩ := hx
  exact codeBits_bits _ _ x h
theorem sbs_len {ls : List Int} (h : ∀ s : Nat, (costS ls s).toNat ≤ 15) (T : List Nat) : (sbs ls T).length ≤ 15 * T.length := by
  induction T with
  | nil => simp [sbs]
  | cons s T ih =>
    have h1 : sbs ls (s :: T) = sb ls s ++ sbs ls T := rfl
    have h2 : (sb ls s).length = (costS ls s).toNat := codeBits_length _ _
    have h3 := h s
    rw [h1, List.length_append, h2, List.length_cons]
    omega
theorem costS_le {ls : List Int} (hc : checkS ls = 0) (s : Nat) : 0 ≤ costS ls s ∧ costS ls s ≤ 15 := by
  have := (complete hc).1 s
  unfold costS
  rw [Int.toNat_natCast]
  split
  · split <;> omega
  · omega
/-- Where symbol j's bits lie. -/
theorem sbs_at (ls : List Int) (T : List Nat) (j : Nat) (hj : j < T.length) (t : Nat) (ht : t < (costS ls T[j]).toNat) :
    bl (sbs ls T) ((sbs ls (T.take j)).length + t) = codeS ls T[j] / 2 ^ ((costS ls T[j]).toNat - 1 - t) % 2 := by
  have e : sbs ls T = sbs ls (T.take j) ++ (sb ls T[j] ++ sbs ls (T.drop (j + 1))) := by
    have h1 : T = T.take j ++ T[j] :: T.drop (j + 1) := by rw [List.getElem_cons_drop]; simp
    have h2 : ∀ a b : List Nat, sbs ls (a ++ b) = sbs ls a ++ sbs ls b := fun a b => by simp [sbs]
    have h3 : sbs ls (T.take j ++ T[j] :: T.drop (j + 1)) = sbs ls (T.take j) ++ (sb ls T[j] ++ sbs ls (T.drop (j + 1))) := by rw [h2]; rfl
    rw [← h3, ← h1]
  rw [e]
  unfold bl
  rw [List.getElem?_append_right (by omega), Nat.add_sub_cancel_left, List.getElem?_append_left (by show t < (codeBits _ _).length; rw [codeBits_length]; exact ht)]
  show ((codeBits _ _)[t]?).getD 0 = _
  rw [codeBits_get _ _ _ ht]; rfl
theorem sbs_take_next (ls : List Int) (T : List Nat) (j : Nat) (hj : j < T.length) : (sbs ls (T.take (j + 1))).length = (sbs ls (T.take j)).length + (costS ls T[j]).toNat := by
  rw [List.take_add_one, List.getElem?_eq_getElem hj]
  show (sbs ls (T.take j ++ [T[j]])).length = _
  rw [sbs_app, List.length_append]
  show _ + (codeBits _ _).length = _
  rw [codeBits_length]
theorem sbs_take_le (ls : List Int) (T : List Nat) (j : Nat) : (sbs ls (T.take j)).length ≤ (sbs ls T).length := by
  have h : sbs ls T = sbs ls (T.take j) ++ sbs ls (T.drop j) := by
    unfold sbs
    rw [← List.flatMap_append, List.take_append_drop]
  rw [h, List.length_append]; omega
theorem vAt_code (bs : List Int) (p n : Nat) (c : Int) (h0 : 0 ≤ c) (h1 : c < 2 ^ n) (h : ∀ t, t < n → bitAt bs (p + t) = c / 2 ^ (n - 1 - t) % 2) : ∀ m, m ≤ n → vAt bs p m = c / 2 ^ (n - m) := by
  intro m
  induction m with
  | zero => intro _; simp only [vAt, Nat.sub_zero]; exact (Int.ediv_eq_zero_of_lt h0 h1).symm
  | succ m ih =>
    intro hm
    simp only [vAt]
    rw [ih (by omega), h m (by omega), show n - 1 - m = n - (m + 1) from by omega, show n - m = (n - (m + 1)) + 1 from by omega, Int.pow_succ, ← Int.ediv_ediv_of_nonneg (by exact_mod_cast Nat.zero_le _)]
    omega
theorem upTo_mono0 (ls : List Int) (n : Int) (hn : 0 < n) (i : Nat) (hi : i ≤ ls.length) : upTo ls n 0 ≤ upTo ls n i := by
  rw [upTo_eq ls n hn i hi]; omega
theorem upTo_scale (ls : List Int) (m : Nat) : ∀ d : Nat, upTo ls m ls.length * 2 ^ (d + 1) ≤ upTo ls (m + 1 + d : Nat) 0 := by
  intro d
  induction d with
  | zero =>
    have := upTo_next ls m
    rw [show ((m + 1 + 0 : Nat) : Int) = (m : Int) + 1 from rfl, this]
    simp
  | succ d ih =>
    have h1 := upTo_next ls (m + 1 + d : Nat)
    have h2 := upTo_mono0 ls (m + 1 + d : Nat) (by omega) ls.length (Nat.le_refl _)
    rw [show ((m + 1 + (d + 1) : Nat) : Int) = ((m + 1 + d : Nat) : Int) + 1 from rfl, h1, Int.pow_succ, ← Int.mul_assoc]
    omega
/-- What is written is found. -/
theorem found_written {ls bs : List Int} {p s : Nat} (hc : checkS ls = 0) (h1 : (oneS ls).2 = false) (hs : hasS ls s = true) (h : ∀ t, t < (costS ls s).toNat → bitAt bs (p + t) = codeS ls s / 2 ^ ((costS ls s).toNat - 1 - t) % 2) : Found ls bs p (costS ls s).toNat s := by
  have hb := (complete hc).1 s
  have hsl : s < ls.length ∧ 0 < ln ls s := by unfold hasS at hs; rw [Int.toNat_natCast] at hs; simp at hs; exact hs
  have e : costS ls s = ln ls s := by unfold costS; rw [hs, h1, Int.toNat_natCast]; rfl
  rw [e] at h ⊢
  obtain ⟨n, hn⟩ := Int.eq_ofNat_of_zero_le hb.1
  rw [hn, Int.toNat_natCast] at h ⊢
  have hcl := code_lt hc hsl.1 hsl.2
  rw [hn, Int.toNat_natCast] at hcl
  have hv := vAt_code bs p n (codeS ls s) hcl.1 (by omega) h
  refine ⟨by omega, by omega, hsl.1, hn, ?_, fun m h1 h2 => ?_⟩
  · rw [hv n (Nat.le_refl _), Nat.sub_self]; simp
  · rw [hv m (by omega)]
    have hp : (0 : Int) < 2 ^ (n - m) := by exact_mod_cast Nat.two_pow_pos _
    rw [Int.le_ediv_iff_mul_le hp]
    have h3 := upTo_scale ls m (n - m - 1)
    rw [show n - m - 1 + 1 = n - m from by omega, show m + 1 + (n - m - 1) = n from by omega] at h3
    have h4 := upTo_mono0 ls n (by omega) s (by omega)
    have h5 := upTo_code ls s
    rw [hn] at h5
    omega
/-- The only symbol. -/
theorem one_is {ls : List Int} (hc : checkS ls = 0) (h1 : (oneS ls).2 = true) {s : Nat} (hs : hasS ls s = true) : (oneS ls).1 = s := by
  have hsl : s < ls.length ∧ 0 < ln ls s := by unfold hasS at hs; rw [Int.toNat_natCast] at hs; simp at hs; exact hs
  have hm := (one_many (fun t => ((complete hc).1 t).1)).1 h1
  have hn := nonzero_many (ls := ls) (fun t => ((complete hc).1 t).1)
  rw [hm] at hn
  obtain ⟨j, hj⟩ := List.length_eq_one_iff.1 hn
  have hmem : s ∈ nonzero ls := by
    unfold nonzero
    rw [List.mem_filter, List.mem_range]
    exact ⟨hsl.1, by simp; omega⟩
  rw [hj] at hmem
  obtain rfl : s = j := by simpa using hmem
  unfold oneS; rw [hj]; rfl
end Go.Proofs.YtfeloicmkcfinaaDoor
