/- What size.Best does, in one contract; and that its lengths are the plain theory's. -/
import Derived.Test.YtoanhnebalapeaaBestA
import Derived.Test.YtoanhnebalapeaaBestD
namespace Go.Proofs.Ytoanhnebalapeaa
open Go.RowKit
open Go.Proofs.YtoanhnebalapeaaW.PrintWords
open Srt Sz

theorem FEq.perm {α : Type} {key : α → Int} {a b : List α} (h : FEq key a b) : a.Perm b := by
  classical
  rw [List.perm_iff_count]
  intro x
  have e : ∀ l : List α, l.count x = (l.filter (fun y => key y == key x)).count x := fun l => by rw [List.count_filter (by simp)]
  rw [e a, e b, h]

/-- The coins, in order. -/
def IsCoins (cs : List Int) (css : List Nat) : Prop := FEq Pk.sum ((comeUp cs cs.length).map (coin (ln cs))) (css.map (coin (ln cs)))
theorem coins_of {cs : List Int} {most : Int} {qc : List Pk} (hok : okS cs most = true) (h2 : 2 ≤ many cs) (hu : Up qc) (hf : FEq Pk.sum ((comeUp cs cs.length).map (coin (ln cs))) qc) :
    ∃ css, qc = css.map (coin (ln cs)) ∧ IsCoins cs css ∧ css.Perm (comeUp cs cs.length) ∧ Coins (ln cs) cs.length css (most.toNat - 1) := by
  have hq : qc = (qc.map (fun q => q.syms.headD 0)).map (coin (ln cs)) := by
    rw [List.map_map]
    conv => lhs; rw [← List.map_id qc]
    apply List.map_congr_left
    intro q hq
    obtain ⟨s, _, rfl⟩ := List.mem_map.1 ((hf.mem q).2 hq)
    rfl
  have hp : (qc.map (fun q => q.syms.headD 0)).Perm (comeUp cs cs.length) := by
    have h := (FEq.perm hf).symm.map (fun q : Pk => q.syms.headD 0)
    rw [List.map_map] at h
    have e : ((fun q : Pk => q.syms.headD 0) ∘ coin (ln cs)) = id := by funext s; rfl
    rw [e, List.map_id] at h
    exact h
  have hmem : ∀ s ∈ qc.map (fun q => q.syms.headD 0), s < cs.length ∧ 0 < ln cs s := fun s hs => by
    have h := hp.mem_iff.1 hs
    unfold comeUp at h
    rw [List.mem_filter, List.mem_range] at h
    exact ⟨h.1, by simpa using h.2⟩
  have hlen : (qc.map (fun q => q.syms.headD 0)).length = many cs := by rw [hp.length_eq, comeUp_len]; rfl
  refine ⟨_, hq, ?_, hp, ?_, fun s hs => (hmem s hs).1, fun s hs => by have := (hmem s hs).2; omega, ?_, by omega, ?_⟩
  · unfold IsCoins; rw [← hq]; exact hf
  · refine hp.nodup_iff.2 ?_
    unfold comeUp
    exact List.nodup_range.filter _
  · have h := hu
    rw [hq] at h
    have key : ∀ L : List Nat, Up (L.map (coin (ln cs))) → Sorted (ln cs) L := fun L h => by
      have h' : List.Pairwise (fun a b => (coin (ln cs) a).sum ≤ (coin (ln cs) b).sum) L := (List.pairwise_map (R := fun x y : Pk => x.sum ≤ y.sum)).1 h
      exact h'
    exact key _ h
  · rw [hlen]
    unfold okS at hok
    simp at hok
    have h1 := hok.2
    have h3 : most.toNat - 1 + 1 = most.toNat := by omega
    rw [h3]
    exact_mod_cast h1

/-- What Best answers where the counts serve. -/
def BestIs (cs : List Int) (most : Int) (out : List Int) : Prop :=
  (many cs < 2 ∧ out = lensS cs.length (comeUp cs cs.length)) ∨ (2 ≤ many cs ∧ ∃ css, IsCoins cs css ∧ css.Perm (comeUp cs cs.length) ∧ Coins (ln cs) cs.length css (most.toNat - 1) ∧ out = bestS (ln cs) cs.length css (most.toNat - 1))

theorem best_any (A : Option Addr) (n c : Nat) (cs : List Int) (most : Int) (w : World) (HR : ReadsInt w .i64 A n cs) :
    Calls Try.prog 33 #[.slice A n c, .int .i64 most] w fun e w' => Below w.heap.size w w' ∧
      ((okS cs most = false ∧ e = .returned (.tuple #[.slice none 0 0, .int .i64 1])) ∨
       (okS cs most = true ∧ ∃ v out, e = .returned (.tuple #[v, .int .i64 0]) ∧ w'.ownsRow w.heap.size 3 1 v n (nums .i64 out) ∧ BestIs cs most out)) := by
  have hl : cs.length = n := HR.1
  cases hok : okS cs most with
  | false =>
    refine (best_bad A n c cs most w HR hok).mono ?_
    rintro e w' ⟨rfl, rfl⟩
    exact ⟨Below.refl _ _, .inl ⟨rfl, rfl⟩⟩
  | true =>
    by_cases h2 : many cs < 2
    · refine (best_few A n c cs most w HR hok h2).mono ?_
      rintro e w' ⟨v, rfl, ho, hb⟩
      exact ⟨hb, .inr ⟨rfl, v, _, rfl, ho, .inl ⟨h2, by rw [hl]⟩⟩⟩
    · refine (best_many A n c cs most w HR hok (by omega)).mono ?_
      rintro e w' ⟨v, qc, rfl, hu, hf, ho, hb⟩
      obtain ⟨css, h1, h3, h4, h5⟩ := coins_of hok (by omega) hu hf
      have hlen : css.length = many cs := by rw [h4.length_eq, comeUp_len]; rfl
      refine ⟨hb, .inr ⟨rfl, v, _, rfl, ho, .inr ⟨by omega, css, h3, h4, h5, ?_⟩⟩⟩
      unfold bestS sel
      rw [h1, hlen, hl]
end Go.Proofs.Ytoanhnebalapeaa
