/- What ref.Least answers is what the lengths of size.Best cost. No program in sight. -/
import Derived.Test.YtoanhnebalapeaaLaws06A
import Derived.Test.YtoanhnebalapeaaRefLeast
namespace Go.Proofs.Ytoanhnebalapeaa
open Go.RowKit
open Srt Sz

theorem pos_map (cs : List Int) : ∀ k, k ≤ cs.length → (comeUp cs k).map (ln cs) = pos cs k
  | 0, _ => by simp [comeUp, pos]
  | k + 1, hk => by
    rw [comeUp_succ, List.map_append, pos_map cs k (by omega)]
    by_cases h : 0 < ln cs k
    · rw [pos_yes (by omega) h, if_pos h]; rfl
    · rw [pos_no (by omega) h, if_neg h]; simp
theorem many_same {cs out : List Int} (hl : out.length = cs.length) (h : ∀ s, 0 < ln out s ↔ 0 < ln cs s) : many out = many cs := by
  unfold many mnUp; rw [hl]
  refine List.countP_congr fun s _ => ?_
  simpa using h s
theorem best_check {cs : List Int} {most : Int} {out : List Int} (hok : okS cs most = true) (h : BestIs cs most out) (h1 : 1 ≤ many cs) : checkS out = 0 := by
  obtain ⟨hm1, hm2, h3, hc⟩ := okS_room hok
  have hb : out.any badLen = false := by
    rw [List.any_eq_false]
    intro x hx
    obtain ⟨t, ht, rfl⟩ := List.mem_iff_getElem.1 hx
    have := best_lens hok h t
    rw [ln_get ht] at this
    unfold badLen; simp; omega
  unfold checkS
  rw [hb]
  have hmm := many_same h.length (fun s => (best_lens hok h s).2.2.1)
  rcases h with ⟨hm, _⟩ | ⟨hm, css, _, hp, hC, rfl⟩
  · rw [if_neg (by simp), if_pos (.inl (by omega))]
  · rw [if_neg (by simp), if_pos (.inr (best_kraft hC (by omega)))]
theorem best_coins {cs : List Int} {most : Int} {out : List Int} (hok : okS cs most = true) (h : BestIs cs most out) :
    ∃ C : List Pk, Up C ∧ (C.map Pk.sum).Perm (pos cs cs.length) ∧ (∀ x ∈ C, 0 ≤ x.sum ∧ x.sum ≤ 4294967296) ∧ 2 * C.length - 2 ≤ (pm C (most.toNat - 1)).length ∧
      ∀ v, (C = [] → v = 0) → (∀ x, C = [x] → v = x.sum) → (2 ≤ C.length → v = tot ((pm C (most.toNat - 1)).take (2 * C.length - 2))) → tt cs out = v := by
  obtain ⟨hm1, hm2, h3, hc⟩ := okS_room hok
  have hsum : ∀ l : List Nat, (l.map (coin (ln cs))).map Pk.sum = l.map (ln cs) := fun l => by rw [List.map_map]; rfl
  have hcn : ∀ l : List Nat, ∀ x ∈ l.map (coin (ln cs)), 0 ≤ x.sum ∧ x.sum ≤ 4294967296 := fun l x hx => by
    obtain ⟨s, _, rfl⟩ := List.mem_map.1 hx; exact hc s
  rcases best_tt hok h with ⟨hm, e⟩ | ⟨hm, css, _, hp, hC, e⟩
  · have hlen : (comeUp cs cs.length).length < 2 := by rw [comeUp_len]; exact hm
    have e2 : sumTo cs.length (ln cs) = ((comeUp cs cs.length).map (ln cs)).sum := sumTo_nodup _ _ _ (comeUp_nodup _ _) (fun x hx => (mem_comeUp.1 hx).1) (fun s hs hn => by
      have := hc s
      by_cases hp : 0 < ln cs s
      · exact absurd (mem_comeUp.2 ⟨hs, hp⟩) hn
      · omega)
    refine ⟨(comeUp cs cs.length).map (coin (ln cs)), ?_, by rw [hsum, pos_map cs _ (Nat.le_refl _)], hcn _, by rw [List.length_map]; omega, fun v h0 h1 _ => ?_⟩
    · generalize comeUp cs cs.length = L at *
      match L, hlen with
      | [], _ => exact List.Pairwise.nil
      | [x], _ => exact List.pairwise_singleton _ _
    · rw [e, e2]
      generalize comeUp cs cs.length = L at *
      match L, hlen with
      | [], _ => rw [h0 rfl]; rfl
      | [x], _ => rw [h1 _ rfl]; simp [coin]
  · refine ⟨css.map (coin (ln cs)), hC.up, by rw [hsum, ← pos_map cs _ (Nat.le_refl _)]; exact hp.map _, hcn _, by rw [List.length_map]; exact hC.le, fun v _ _ h2 => ?_⟩
    rw [List.length_map] at h2
    rw [e, h2 (by rw [hp.length_eq, comeUp_len]; exact hm)]
    rfl
end Go.Proofs.Ytoanhnebalapeaa
