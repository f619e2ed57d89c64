/- Plain facts: a packed picture, unpacked, is itself. -/
import Derived.Test.YtmgkdlkjcncniaaTabS
namespace Go.Proofs.Ytmgkdlkjcncniaa

theorem gs_get {b : Nat} {N : Nat → Nat} {p0 j : Nat} (h : ∀ i, N i < 2 ^ (8 / 2 ^ b)) : ∀ {k}, j < k → Tb.gs b N p0 k / 2 ^ (j * (8 / 2 ^ b)) % 2 ^ (8 / 2 ^ b) = N (p0 + j)
  | k + 1, hj => by
    have hp : 0 < 2 ^ (j * (8 / 2 ^ b)) := Nat.pow_pos (by decide)
    unfold Tb.gs
    by_cases hk : j = k
    · subst hk
      have h1 := Tb.gs_lt (p0 := p0) h j
      rw [Nat.add_mul_div_right _ _ hp, Nat.div_eq_of_lt h1, Nat.zero_add, Nat.mod_eq_of_lt (h _)]
    · have h1 := gs_get (b := b) (N := N) (p0 := p0) h (show j < k by omega)
      have e : 2 ^ (k * (8 / 2 ^ b)) = 2 ^ ((k - j - 1) * (8 / 2 ^ b)) * 2 ^ (8 / 2 ^ b) * 2 ^ (j * (8 / 2 ^ b)) := by
        rw [← Nat.pow_add, ← Nat.pow_add, ← Nat.succ_mul, ← Nat.add_mul]
        congr 2; omega
      rw [e, ← Nat.mul_assoc, ← Nat.mul_assoc, Nat.add_mul_div_right _ _ hp, Nat.add_mul_mod_self_right, h1]

theorem pk_get {NN I : Nat} {f : Nat → Nat} (h : I < NN) : ((List.range NN).map fun I => ((f I : Nat) : Int)).getD I 0 = (f I : Nat) := by
  rw [List.getD_eq_getElem?_getD, List.getElem?_map, List.getElem?_range h]; rfl

theorem unp_pack {W H V m t : Nat} {ps ls : List Int} (hm : ls.length = m) (h2 : m ≤ 256) (hV : V = (W + 2 ^ bitsT m - 1) / 2 ^ bitsT m) (hW : 1 ≤ W) (ht : t < W * H) (hin : ps.getD t 0 ∈ ls) :
    unpPix V W (bitsT m) ((List.range (V * H)).map fun I => ((Tb.val W V (bitsT m) (pnum ls ps) (W * H) I : Nat) : Int)) ls t = ps.getD t 0 := by
  obtain ⟨i, hi, hget⟩ := fi_mem hin
  have hil := fi_lt hi
  have hpn : pnum ls ps t = i := by unfold pnum; rw [hi]; rfl
  have hN := pnum_lt (ls := ls) (ps := ps) hm h2
  have hb := bitsT_le m
  obtain ⟨_, _, hI⟩ := idx_lt (W := V) (H := H) hW hV ht
  obtain ⟨a1, a2, a3⟩ := Tb.at_cell (t := t) hV hW
  obtain ⟨c1, c2, c3⟩ := Tb.cellK_at (t := t) hV hW
  generalize bitsT m = b at *
  have hp : 0 < 2 ^ b := Nat.pow_pos (by decide)
  have hx : t % W < W := Nat.mod_lt _ (by omega)
  have e1 := Nat.div_add_mod (t % W) (2 ^ b)
  have e3 : t % W % 2 ^ b < 2 ^ b := Nat.mod_lt _ hp
  have hK : t % W % 2 ^ b < Tb.cellK W V b (W * H) (t / W * V + t % W / 2 ^ b) := by
    unfold Tb.cellK
    rw [a2, a3]
    rw [Nat.mul_comm] at e1
    omega
  have hg8 : ∃ g, Tb.gs b (pnum ls ps) (t / W * W + t % W / 2 ^ b * 2 ^ b) (Tb.cellK W V b (W * H) (t / W * V + t % W / 2 ^ b)) = g ∧ g < 256 ∧ Tb.val W V b (pnum ls ps) (W * H) (t / W * V + t % W / 2 ^ b) = 4278190080 + 256 * g := by
    refine ⟨_, rfl, ?_, ?_⟩
    · have h1 := Tb.gs_lt (p0 := t / W * W + t % W / 2 ^ b * 2 ^ b) hN (Tb.cellK W V b (W * H) (t / W * V + t % W / 2 ^ b))
      have h3 : Tb.cellK W V b (W * H) (t / W * V + t % W / 2 ^ b) ≤ 2 ^ b := by unfold Tb.cellK; omega
      have h4 : Tb.cellK W V b (W * H) (t / W * V + t % W / 2 ^ b) * (8 / 2 ^ b) ≤ 8 := Nat.le_trans (Nat.mul_le_mul_right _ h3) (Nat.mul_div_le _ _)
      have h5 : 2 ^ (Tb.cellK W V b (W * H) (t / W * V + t % W / 2 ^ b) * (8 / 2 ^ b)) ≤ 2 ^ 8 := Nat.pow_le_pow_right (by decide) h4
      have h6 : (2 : Nat) ^ 8 = 256 := by decide
      omega
    · unfold Tb.val
      rw [if_neg (by omega), a2, a3]
  obtain ⟨g, hg, hg8, hval⟩ := hg8
  have hgs := gs_get (p0 := t / W * W + t % W / 2 ^ b * 2 ^ b) hN hK
  rw [hg, c3, hpn] at hgs
  unfold unpPix
  rw [pk_get hI, hval]
  have hdiv : (((4278190080 + 256 * g : Nat) : Int) / 256 % 256) = (g : Int) := by omega
  rw [hdiv]
  have hun : unpN b (g : Int) (t % W) = (i : Int) := by
    unfold unpN
    rw [← hgs]; norm_cast
  rw [hun]
  simp only []
  rw [if_pos (by exact_mod_cast hil)]
  simpa using hget
theorem unp_all {W H V m : Nat} {ps ls : List Int} (hm : ls.length = m) (h2 : m ≤ 256) (hV : V = (W + 2 ^ bitsT m - 1) / 2 ^ bitsT m) (hW : 1 ≤ W) (hn : ps.length = W * H) (hin : ∀ t, t < W * H → ps.getD t 0 ∈ ls) :
    (List.range (W * H)).map (unpPix V W (bitsT m) ((List.range (V * H)).map fun I => ((Tb.val W V (bitsT m) (pnum ls ps) (W * H) I : Nat) : Int)) ls) = ps := by
  apply List.ext_getElem?
  intro k
  by_cases hk : k < W * H
  · rw [List.getElem?_map, List.getElem?_range hk, Option.map_some, unp_pack hm h2 hV hW hk (hin k hk), List.getD_eq_getElem?_getD, List.getElem?_eq_getElem (by omega)]; rfl
  · rw [List.getElem?_eq_none (by simp; omega), List.getElem?_eq_none (by omega)]
end Go.Proofs.Ytmgkdlkjcncniaa
