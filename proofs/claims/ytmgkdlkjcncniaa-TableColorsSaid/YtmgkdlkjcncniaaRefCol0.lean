/- The reference's Colors: plain facts, and an append within a drawing region. -/
import Derived.Test.YtmgkdlkjcncniaaRefTab2
import Derived.Test.YtmgkdlkjcncniaaTab3
namespace Go.Proofs.Ytmgkdlkjcncniaa
open Go.RowKit
open Go.Proofs.YtmgkdlkjcncniaaW.PrintWords

open Go in
theorem step_append_u {P : Program} {ops : Array Oper} {o : Oper} {a : Act} {Q : Exit → Act → World → Prop} {K : Act → World → Prop} {w0 W : World} (base : Nat) (hw : Region.wanted o (yielded ops a.tmps) = true) (s x : Operand) (t e : TypeId)
    (ho : o.op = .call { callee := .builtin .append, args := #[s, x], argTypes := #[t, t] })
    (ht : P.underlying t = some (.slice e)) (hinfo : (P.info? e).map (fun i => (i.zero, i.size, i.bytes)) = some (some (.int .u32 0), 1, 4))
    (v : Value) (n : Nat) (xs ys : List Int) (A : Option Addr) (m c : Nat) (hs : a.eval s = v) (hx : a.eval x = .slice A m c)
    (HO : W.ownsRow base e 1 v n (nums .u32 xs)) (HR : ReadsInt W .u32 A m ys) (HB : Below base w0 W) (hbase : base ≤ W.heap.size) (hl : n + m ≤ 1000000)
    (h : ∀ v1 w1, w1.ownsRow base e 1 v1 (n + m) (nums .u32 (xs ++ ys)) → Below base w0 w1 → W.grownBy w1 v.ownBlock → (v1.ownBlock = v.ownBlock ∨ ∃ b, v1.ownBlock = some b ∧ W.heap.size ≤ b) → K (a.put o.dst v1) w1) :
    if Region.wanted o (yielded ops a.tmps) = true then Oper.wp P o a W K Q else K (a.put o.dst undef) W := by
  obtain ⟨i0, hi, hzz⟩ := Option.map_eq_some_iff.1 hinfo
  simp only [Prod.mk.injEq] at hzz
  obtain ⟨hz0, hz1, hz2⟩ := hzz
  rw [if_pos hw]
  have hm : ys.length = m := HR.1
  have hrun : ∃ v1 w1, (Builtin.append_ #[t, t] o.type #[v, .slice A m c]).run P W = .ok v1 w1 ∧ w1.ownsRow base e 1 v1 (n + m) (nums .u32 xs ++ nums .u32 ys) ∧ W.grownBy w1 v.ownBlock ∧ (v1.ownBlock = v.ownBlock ∨ v1.ownBlock = some W.heap.size) := by
    rcases A with _ | ad
    · have h0 : m = 0 := by
        rcases Nat.eq_zero_or_pos m with h0 | h0
        · exact h0
        · obtain ⟨ad, h, _⟩ := HR.2.2 h0
          cases h
      subst h0
      obtain rfl : ys = [] := List.eq_nil_of_length_eq_zero hm
      refine ⟨v, W, ?_, by simpa [nums] using HO, World.grownBy.refl W _, .inl rfl⟩
      rcases HO.2 with ⟨rfl, hn⟩ | ⟨g, cap, cur, rfl, _, _, hnc, _⟩
      · simp [Builtin.append_, run_underlying ht, sizeOf, typeInfo, hi, Builtin.lenOf, Builtin.firstCells]
      · simp [Builtin.append_, run_underlying ht, sizeOf, typeInfo, hi, Builtin.lenOf, Builtin.firstCells, hnc, storeCells]
    · have hcells : ∀ j u, (nums .u32 ys)[j]? = some u → W.cell? (ad.add j) = some u := by
        intro j u hu
        have hj : j < ys.length := by have := (List.getElem?_eq_some_iff.1 hu).1; rwa [nums_length] at this
        obtain ⟨ad', e, hc⟩ := HR.2.2 (by omega)
        cases e
        rw [hc j (by omega)]
        simp only [nums, List.getElem?_map, List.getElem?_eq_getElem hj, Option.map_some] at hu
        rw [← hu, List.getD_eq_getElem?_getD, List.getElem?_eq_getElem hj]; rfl
      obtain ⟨v1, w1, hr, h2, h3, _, h5⟩ := run_append_own_at (P := P) W base t o.type e i0 (.int .u32 0) 1 4 ht hi hz0 hz1 hz2 rfl (by decide) v n (nums .u32 xs) HO ad m c (nums .u32 ys) (by rw [nums_length, hm]; omega)
        hcells (by intro u hu; simp only [nums, List.mem_map] at hu; obtain ⟨y, _, rfl⟩ := hu; rfl) (by simp only [maxLen]; omega) (by omega) hbase
      exact ⟨v1, w1, hr, h2, h3, h5⟩
  obtain ⟨v1, w1, hr, hown, hg, hat⟩ := hrun
  unfold Oper.wp execOp
  simp only [ho, resolve, invoke, builtin, Sem.run_bind, Sem.run_pure, Result.andThen_ok, List.map_toArray, List.map_cons, List.map_nil, hs, hx, hr]
  refine h v1 w1 (by rw [show nums .u32 (xs ++ ys) = nums .u32 xs ++ nums .u32 ys from by simp [nums]]; exact hown) (HB.grown hg (by simpa using hbase) (fun k hk => (HO.lt k hk).1)) hg ?_
  rcases hat with h1 | h1
  · exact .inl h1
  · exact .inr ⟨_, h1, by simp⟩

theorem own_emptyU {W : World} {e : TypeId} {B H : Nat} (h : W.heap[H]? = some (.cells #[] e (0, 0))) (hB : B ≤ H) : W.ownsRow B e 1 (.slice (some ⟨H, 0, none⟩) 0 0) 0 (nums .u32 []) :=
  ⟨by simp [nums], .inr ⟨H, 0, #[], rfl, hB, h, by simp, by simp, by simp [nums]⟩⟩
theorem first_u {W : World} {e : TypeId} {v : Value} {B k : Nat} {xs : List Int} (h : W.ownsRow B e 1 v (0 + k) (nums .u32 ([] ++ xs))) : W.ownsRow B e 1 v k (nums .u32 xs) := by
  rw [Nat.zero_add, List.nil_append] at h; exact h
theorem reads_oneU {W : World} {e : TypeId} {g : Nat} {p : Int} (h : W.heap[g]? = some (.cells #[.int .u32 p] e (0, 0))) : ReadsInt W .u32 (some ⟨g, 0, none⟩) 1 [p] := by
  refine ⟨rfl, by decide, fun _ => ⟨_, rfl, fun j hj => ?_⟩⟩
  obtain rfl : j = 0 := by omega
  have := cell_blk h 0
  exact this
theorem low_slice {A : Option Addr} {no co k : Nat} (hA : (A = none ∧ no = 0 ∧ co = 0) ∨ ∃ g, A = some ⟨g, 0, none⟩ ∧ no ≤ co) (hk : k ≤ no) (W : World) :
    (Instr.slice 22 (.slice A no co) none (some (.int .i64 (k : Int))) none).run Try.prog W = .ok (.slice A k co) W := by
  rcases hA with ⟨rfl, rfl, rfl⟩ | ⟨g, rfl, h⟩
  · obtain rfl : k = 0 := by omega
    kernel_rfl
  · have hel : Try.prog.underlying 22 = some (.slice (Try.prog.elem 22)) := by kernel_rfl
    rw [run_slice_h W 22 (some ⟨g, 0, none⟩) no co hel .i64 (k : Int) (Int.natCast_nonneg _) (by omega)]
    rw [show (sizeOf (Try.prog.elem 22)).run Try.prog W = .ok 1 W from by kernel_rfl]
    simp [sliced, Result.andThen]
    intro _
    rfl
namespace Tb
theorem ins_at {p : Int} : ∀ (L : List Int) (k : Nat), (∀ j, j < k → L.getD j 0 < p) → k ≤ L.length → (k < L.length → p < L.getD k 0) → ins p L = L.take k ++ p :: L.drop k
  | [], k, _, hk, _ => by
    have : k = 0 := by simpa using hk
    subst this; rfl
  | x :: t, 0, _, _, h => by
    have := h (by simp)
    simp only [List.getD_cons_zero] at this
    unfold ins
    rw [if_neg (by omega), if_neg (by omega)]; rfl
  | x :: t, k + 1, h1, hk, h2 => by
    have h0 := h1 0 (by omega)
    simp only [List.getD_cons_zero] at h0
    unfold ins
    rw [if_pos h0, ins_at t k (fun j hj => by have := h1 (j + 1) (by omega); simpa using this) (by simpa using hk) (fun hh => by have := h2 (by simpa using hh); simpa using this)]
    rfl
theorem not_mem_at {p : Int} {L : List Int} {k : Nat} (hu : Up L) (h1 : ∀ j, j < k → L.getD j 0 < p) (h2 : k < L.length → p < L.getD k 0) : p ∉ L := by
  intro hp
  obtain ⟨j, hj, e⟩ := List.getElem_of_mem hp
  have eg : ∀ i (hi : i < L.length), L.getD i 0 = L[i] := fun i hi => by rw [List.getD_eq_getElem?_getD, List.getElem?_eq_getElem hi]; rfl
  by_cases hjk : j < k
  · have := h1 j hjk
    rw [eg j hj] at this; omega
  · have hk : k < L.length := by omega
    have h3 := h2 hk
    rw [eg k hk] at h3
    by_cases hjk' : j = k
    · subst hjk'; omega
    · have := List.pairwise_iff_getElem.1 hu k j hk hj (by omega)
      omega
theorem mem_at {p : Int} {L : List Int} {k : Nat} (hk : k < L.length) (h : L.getD k 0 = p) : p ∈ L := by
  rw [← h, List.getD_eq_getElem?_getD, List.getElem?_eq_getElem hk]
  exact List.getElem_mem _
end Tb
end Go.Proofs.Ytmgkdlkjcncniaa
