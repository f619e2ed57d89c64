/- What the lengths of size.Best are good for. No program in sight. -/
import Derived.Test.YtoanhnebalapeaaLaws06Q
namespace Go.Proofs.Ytoanhnebalapeaa
open Go.RowKit
open Srt Sz

theorem mem_comeUp {cs : List Int} {k s : Nat} : s ∈ comeUp cs k ↔ s < k ∧ 0 < ln cs s := by
  unfold comeUp; rw [List.mem_filter, List.mem_range]; simp
theorem comeUp_nodup (cs : List Int) (k : Nat) : (comeUp cs k).Nodup := by
  unfold comeUp; exact List.nodup_range.filter _
theorem BestIs.length {cs : List Int} {most : Int} {out : List Int} (h : BestIs cs most out) : out.length = cs.length := by
  rcases h with ⟨_, rfl⟩ | ⟨_, css, _, _, _, rfl⟩
  · exact lensS_length _ _
  · exact lensS_length _ _
theorem ln_rep' (k : Nat) (v : Int) (t : Nat) (h : t < k) : ln (List.replicate k v) t = v := by
  unfold ln; rw [List.getElem?_replicate, if_pos h]; rfl
theorem ln_beyond {ls : List Int} {t : Nat} (h : ls.length ≤ t) : ln ls t = 0 := by
  unfold ln; rw [List.getElem?_eq_none h]; rfl
theorem come_all {cs : List Int} (h : ∀ s, s < cs.length → 0 < ln cs s) : (comeUp cs cs.length).length = cs.length := by
  unfold comeUp
  rw [List.filter_eq_self.2 (fun s hs => by simpa using h s (List.mem_range.1 hs)), List.length_range]

theorem best_flat' {cs : List Int} {most : Int} {out : List Int} (h : BestIs cs most out) (v : Int) (hv : 0 < v) (bits : Nat) (hb : 1 ≤ bits) (hcs : cs = List.replicate (2 ^ bits) v) (hm : (bits : Int) ≤ most) (s : Nat) (hs : s < 2 ^ bits) :
    ln out s = bits := by
  have hl : cs.length = 2 ^ bits := by rw [hcs, List.length_replicate]
  have hln : ∀ t, t < cs.length → ln cs t = v := fun t ht => by rw [hcs]; exact ln_rep' _ _ _ (by omega)
  have hall : (comeUp cs cs.length).length = 2 ^ bits := by rw [← hl]; exact come_all (fun t ht => by rw [hln t ht]; exact hv)
  have h2 : 2 ≤ 2 ^ bits := by
    have : (2 : Nat) ^ 1 ≤ 2 ^ bits := Nat.pow_le_pow_right (by decide) hb
    omega
  rcases h with ⟨hlt, _⟩ | ⟨_, css, _, hp, hC, rfl⟩
  · have : many cs = (comeUp cs cs.length).length := (comeUp_len cs _).symm
    omega
  · have hmem : s ∈ css := hp.mem_iff.2 (mem_comeUp.2 ⟨by omega, by rw [hln s (by omega)]; exact hv⟩)
    exact best_flat hC v (by omega) (fun t ht => hln t (hC.lt t ht)) bits (by rw [hp.length_eq, hall]) (by omega) s hmem

theorem best_order' {cs : List Int} {most : Int} {out : List Int} (h : BestIs cs most out) (i k : Nat) (hi : i < cs.length) (hk : k < cs.length) (h0 : 0 < ln cs k) (hlt : ln cs k < ln cs i) : ln out i ≤ ln out k := by
  have m1 : i ∈ comeUp cs cs.length := mem_comeUp.2 ⟨hi, by omega⟩
  have m2 : k ∈ comeUp cs cs.length := mem_comeUp.2 ⟨hk, h0⟩
  have hne : i ≠ k := fun e => by subst e; omega
  rcases h with ⟨hm, _⟩ | ⟨_, css, _, hp, hC, rfl⟩
  · have hlen : (comeUp cs cs.length).length < 2 := by rw [comeUp_len]; exact hm
    generalize comeUp cs cs.length = L at *
    match L, hlen with
    | [], _ => simp at m1
    | [x], _ => simp at m1 m2; omega
  · exact best_order hC i k (hp.mem_iff.2 m1) (hp.mem_iff.2 m2) hlt

theorem okS_room {cs : List Int} {most : Int} (h : okS cs most = true) : 1 ≤ most ∧ most ≤ 15 ∧ cs.length ≤ 4096 ∧ (∀ s, 0 ≤ ln cs s ∧ ln cs s ≤ 4294967296) := by
  unfold okS at h
  simp at h
  obtain ⟨⟨⟨h1, h2, h3⟩, h4⟩, _⟩ := h
  refine ⟨h1, h2, h3, fun s => ?_⟩
  by_cases hs : s < cs.length
  · have := h4 (ln cs s) (ln_mem hs)
    unfold badCnt at this
    simp at this
    omega
  · rw [ln_beyond (by omega)]; omega

/-- Some for each that comes, none for the others; not too long. -/
theorem best_lens {cs : List Int} {most : Int} {out : List Int} (hok : okS cs most = true) (h : BestIs cs most out) (s : Nat) :
    0 ≤ ln out s ∧ ln out s ≤ most ∧ (0 < ln out s ↔ 0 < ln cs s) ∧ (many cs < 2 → ln out s ≤ 1) := by
  obtain ⟨h1, h2, h3, hc⟩ := okS_room hok
  by_cases hs : s < cs.length
  · rcases h with ⟨hm, rfl⟩ | ⟨hm, css, _, hp, hC, rfl⟩
    · rw [lensS_ln _ _ _ hs]
      by_cases hp : 0 < ln cs s
      · rw [(comeUp_nodup cs cs.length).count, if_pos (mem_comeUp.2 ⟨hs, hp⟩)]; omega
      · rw [(comeUp_nodup cs cs.length).count, if_neg (fun h => hp (mem_comeUp.1 h).2)]; omega
    · by_cases hq : 0 < ln cs s
      · have := best_bounds hC s (hp.mem_iff.2 (mem_comeUp.2 ⟨hs, hq⟩))
        omega
      · have := best_none hC s hs (fun h => hq (mem_comeUp.1 (hp.mem_iff.1 h)).2)
        omega
  · rw [ln_beyond (ls := out) (by rw [h.length]; omega), ln_beyond (ls := cs) (by omega)]; omega

def tt (cs ls : List Int) : Int := sumTo cs.length (fun s => ln cs s * ln ls s)
theorem best_tt {cs : List Int} {most : Int} {out : List Int} (hok : okS cs most = true) (h : BestIs cs most out) :
    (many cs < 2 ∧ tt cs out = sumTo cs.length (ln cs)) ∨ (2 ≤ many cs ∧ ∃ css, IsCoins cs css ∧ css.Perm (comeUp cs cs.length) ∧ Coins (ln cs) cs.length css (most.toNat - 1) ∧ tt cs out = leastS (ln cs) css (most.toNat - 1)) := by
  obtain ⟨h1, h2, h3, hc⟩ := okS_room hok
  rcases h with ⟨hm, rfl⟩ | ⟨hm, css, hI, hp, hC, rfl⟩
  · refine .inl ⟨hm, sumTo_congr fun s hs => ?_⟩
    rw [lensS_ln _ _ _ hs]
    by_cases hp : 0 < ln cs s
    · rw [(comeUp_nodup cs cs.length).count, if_pos (mem_comeUp.2 ⟨hs, hp⟩)]; omega
    · have h0 : ln cs s = 0 := by have := hc s; omega
      rw [h0]; omega
  · exact .inr ⟨hm, css, hI, hp, hC, best_total hC⟩
theorem coins_same {cs : List Int} {k j : Nat} {a b : List Nat} (ha : IsCoins cs a) (hb : IsCoins cs b) (hA : Coins (ln cs) cs.length a k) (hB : Coins (ln cs) cs.length b j) : a.map (coin (ln cs)) = b.map (coin (ln cs)) :=
  sorted_unique hA.up hB.up (FEq.trans (FEq.symm ha) hb)
theorem best_wide {cs : List Int} {k : Int} {a b : List Int} (hk : 6 ≤ k) (hn : cs.length < 64) (hokA : okS cs k = true) (hokB : okS cs (k + 1) = true) (hA : BestIs cs k a) (hB : BestIs cs (k + 1) b) :
    tt cs b ≤ tt cs a ∧ tt cs a ≤ 6 * sumTo cs.length (ln cs) := by
  have hc := (okS_room hokA).2.2.2
  have hnn : 0 ≤ sumTo cs.length (ln cs) := sumTo_nonneg fun t _ => (hc t).1
  rcases best_tt hokA hA with ⟨hm, e1⟩ | ⟨hm, ca, ia, pa, Ca, e1⟩
  · rcases best_tt hokB hB with ⟨_, e2⟩ | ⟨h, _⟩
    · rw [e1, e2]; omega
    · omega
  · rcases best_tt hokB hB with ⟨h, _⟩ | ⟨_, cb, ib, pb, Cb, e2⟩
    · omega
    · have hs := coins_same ia ib Ca Cb
      have hl : cb.length = ca.length := by rw [pa.length_eq, pb.length_eq]
      have e3 : leastS (ln cs) cb ((k + 1).toNat - 1) = leastS (ln cs) ca (k.toNat - 1 + 1) := by
        unfold leastS
        rw [hs, hl, show (k + 1).toNat - 1 = k.toNat - 1 + 1 from by omega]
      have h1 := least_wide Ca
      have hln : ca.length < 64 := by
        have : ca.length = mnUp cs cs.length := by rw [pa.length_eq, comeUp_len]
        have := mnUp_le cs cs.length
        omega
      have h2 := least_cheap Ca (by omega) hln
      have e4 : (ca.map (ln cs)).sum = sumTo cs.length (ln cs) := by
        rw [← sumTo_nodup cs.length (ln cs) ca Ca.nodup Ca.lt (fun s hs hn => by
          have := hc s
          by_cases hp : 0 < ln cs s
          · exact absurd (pa.mem_iff.2 (mem_comeUp.2 ⟨hs, hp⟩)) hn
          · omega)]
      rw [e4] at h2
      rw [e1, e2, e3]
      exact ⟨h1, h2⟩
theorem totS_tt {cs ls : List Int} {n : Nat} (hl : cs.length = n) (hn : n ≤ 4096) (hc : ∀ s, 0 ≤ ln cs s ∧ ln cs s ≤ 4294967296) (h : ∀ s, 0 ≤ ln ls s ∧ ln ls s ≤ 15) : totS cs ls n = tt cs ls := by
  rw [(totS_sum cs ls n hn hc h n (Nat.le_refl _)).1]; unfold tt; rw [hl]
end Go.Proofs.Ytoanhnebalapeaa
