/- What the reference's sorted does: numbers, rising, in their place. (Printed by wip/tools/gensort.py.) -/
import Derived.Test.YtoanhnebalapeaaBestE
import Derived.Deep.RegionHeld3
namespace Go.Proofs.Ytoanhnebalapeaa
open Go.RowKit
open Go.Proofs.YtoanhnebalapeaaW.PrintWords
open Srt Sz

/-- An empty row. -/
theorem own_empty {W : World} {e : TypeId} {B H : Nat} (h : W.heap[H]? = some (.cells #[] e (0, 0))) (hB : B ≤ H) : W.ownsRow B e 1 (.slice (some ⟨H, 0, none⟩) 0 0) 0 (nums .i64 []) :=
  ⟨by simp [nums], .inr ⟨H, 0, #[], rfl, hB, h, by simp, by simp, by simp [nums]⟩⟩
/-- Two rows of the call's own, apart from each other. -/
def Two (W w2 : World) (va vb : Value) (na nb : Nat) (us bs : List Int) : Prop :=
  ∃ ga ca gb cb, va = .slice (some ⟨ga, 0, none⟩) na ca ∧ vb = .slice (some ⟨gb, 0, none⟩) nb cb ∧ ga ≠ gb ∧ (W.heap.size ≤ ga ∧ W.heap.size ≤ gb) ∧ w2.ownsRow W.heap.size 3 1 va na (nums .i64 us) ∧ w2.ownsRow W.heap.size 3 1 vb nb (nums .i64 bs)
theorem two_mk {W w1 w2 : World} {va vb : Value} {na nb : Nat} {us bs : List Int} {H : Nat} (h1 : w1.ownsRow W.heap.size 3 1 va na (nums .i64 us)) (ha : 0 < na) (hb : 0 < nb) (hH : va.ownBlock ≠ some H) (hg : w1.grownBy w2 (some H))
    (hat : vb.ownBlock = some H ∨ ∃ b, vb.ownBlock = some b ∧ w1.heap.size ≤ b) (h2 : w2.ownsRow W.heap.size 3 1 vb nb (nums .i64 bs)) : Two W w2 va vb na nb us bs := by
  have h3 := own_other h1 hg (.inr hH)
  obtain ⟨ga, ca, rfl, hga⟩ := own_someQ h3 ha
  obtain ⟨gb, cb, rfl, hgb⟩ := own_someQ h2 hb
  refine ⟨ga, ca, gb, cb, rfl, rfl, fun e => ?_, ⟨hga, hgb⟩, h3, h2⟩
  subst e
  rcases hat with h | ⟨b, h, hb⟩
  · exact hH h
  · have hlt := own_lt h1 ga rfl
    simp [Value.ownBlock] at h
    omega
theorem Two.swap {W w2 : World} {va vb : Value} {na nb : Nat} {us bs : List Int} (h : Two W w2 vb va nb na bs us) : Two W w2 va vb na nb us bs := by
  obtain ⟨ga, ca, gb, cb, h1, h2, h3, h4, h5, h6⟩ := h
  exact ⟨gb, cb, ga, ca, h2, h1, fun e => h3 e.symm, ⟨h4.2, h4.1⟩, h6, h5⟩
theorem first_a {W : World} {v : Value} {B k : Nat} {xs : List Int} (h : W.ownsRow B 3 1 v (0 + k) (nums .i64 ([] ++ xs))) : W.ownsRow B 3 1 v k (nums .i64 xs) := by
  rw [Nat.zero_add, List.nil_append] at h; exact h
theorem first_b {W : World} {v : Value} {B k : Nat} {xs : List Int} (h : W.ownsRow B 3 1 v (0 + k) (nums .i64 ([] ++ xs))) : W.ownsRow B 3 1 v k (nums .i64 xs) := first_a h
theorem apart_at {v v0 : Value} {s H : Nat} (h : v.ownBlock = v0.ownBlock ∨ ∃ b, v.ownBlock = some b ∧ s ≤ b) (hs : H < s) (hne : v0.ownBlock ≠ some H) : v.ownBlock ≠ some H := by
  rcases h with h | ⟨b, h, hb⟩
  · rw [h]; exact hne
  · rw [h]; intro e; cases e; omega

theorem take_set_snoc (cur : List Int) (j : Nat) (x : Int) (h : j < cur.length) : (cur.set j x).take (j + 1) = cur.take j ++ [x] := by
  rw [List.take_add_one, List.getElem?_set_self h, List.take_set_of_le (Nat.le_refl _)]; rfl
/-- What holds of the merging. -/
structure Mg (xs cur us bs : List Int) (j : Nat) : Prop where
  sa : us.Pairwise (· ≤ ·)
  sb : bs.Pairwise (· ≤ ·)
  sc : (cur.take j).Pairwise (· ≤ ·)
  lo : ∀ x ∈ cur.take j, ∀ y ∈ us ++ bs, x ≤ y
  pm : (cur.take j ++ (us ++ bs)).Perm xs
  len : cur.length = xs.length
theorem Mg.left {xs cur us bs : List Int} {a : Int} {j : Nat} (h : Mg xs cur (a :: us) bs j) (hj : j < cur.length) (hle : ∀ y ∈ bs, a ≤ y) : Mg xs (cur.set j a) us bs (j + 1) := by
  refine ⟨(List.pairwise_cons.1 h.sa).2, h.sb, ?_, ?_, ?_, by rw [List.length_set]; exact h.len⟩
  · rw [take_set_snoc _ _ _ hj, List.pairwise_append]
    exact ⟨h.sc, by simp, fun x hx y hy => by rw [List.mem_singleton.1 hy]; exact h.lo x hx a (by simp)⟩
  · rw [take_set_snoc _ _ _ hj]
    intro x hx y hy
    rcases List.mem_append.1 hx with hx | hx
    · exact h.lo x hx y (by simp at hy ⊢; rcases hy with hy | hy <;> simp [hy])
    · rw [List.mem_singleton.1 hx]
      rcases List.mem_append.1 hy with hy | hy
      · exact (List.pairwise_cons.1 h.sa).1 y hy
      · exact hle y hy
  · rw [take_set_snoc _ _ _ hj, List.append_assoc]
    exact h.pm
theorem Mg.right {xs cur us bs : List Int} {b : Int} {j : Nat} (h : Mg xs cur us (b :: bs) j) (hj : j < cur.length) (hle : ∀ y ∈ us, b ≤ y) : Mg xs (cur.set j b) us bs (j + 1) := by
  refine ⟨h.sa, (List.pairwise_cons.1 h.sb).2, ?_, ?_, ?_, by rw [List.length_set]; exact h.len⟩
  · rw [take_set_snoc _ _ _ hj, List.pairwise_append]
    exact ⟨h.sc, by simp, fun x hx y hy => by rw [List.mem_singleton.1 hy]; exact h.lo x hx b (by simp)⟩
  · rw [take_set_snoc _ _ _ hj]
    intro x hx y hy
    rcases List.mem_append.1 hx with hx | hx
    · exact h.lo x hx y (by simp at hy ⊢; rcases hy with hy | hy <;> simp [hy])
    · rw [List.mem_singleton.1 hx]
      rcases List.mem_append.1 hy with hy | hy
      · exact hle y hy
      · exact (List.pairwise_cons.1 h.sb).1 y hy
  · rw [take_set_snoc _ _ _ hj, List.append_assoc]
    refine List.Perm.trans ?_ h.pm
    refine List.Perm.append_left _ ?_
    exact (List.perm_middle (a := b) (l₁ := us) (l₂ := bs)).symm
theorem Mg.ends {xs cur : List Int} {j : Nat} (h : Mg xs cur [] [] j) (hj : j = cur.length) : cur.Perm xs ∧ cur.Pairwise (· ≤ ·) := by
  have h1 := h.pm
  have h2 := h.sc
  rw [hj, List.take_length] at h1 h2
  exact ⟨by simpa using h1, h2⟩

theorem Mg.begin {xs us bs : List Int} {k : Nat} (ha : us.Perm (xs.take k)) (sa : us.Pairwise (· ≤ ·)) (hb : bs.Perm (xs.drop k)) (sb : bs.Pairwise (· ≤ ·)) : Mg xs xs us bs 0 :=
  ⟨sa, sb, by simp, by simp, by have h := ha.append hb; rw [List.take_append_drop] at h; simpa using h, rfl⟩
theorem own_modsR {T : List Nat} {w w' : World} {base G k c n sz : Nat} {e : TypeId} {xs : List Value} (h : w.ownsRow base e sz (.slice (some ⟨G, 0, none⟩) k c) n xs) (hm : Mods T w w') (hG : G ∉ T) : w'.ownsRow base e sz (.slice (some ⟨G, 0, none⟩) k c) n xs := own_move h (fun q hq => by
  simp [Value.ownBlock] at hq; subst hq
  rcases h.2 with ⟨h0, _⟩ | ⟨g', cap, cur, h0, _, hh, _⟩
  · cases h0
  · cases h0; exact hm.block _ (blk_lt hh) hG)
theorem not1 {a b k c : Nat} (h : a ≠ b) : b ∉ (Value.slice (some ⟨a, 0, none⟩) k c).ownBlock.toList := by simp [Value.ownBlock]; exact fun e => h e.symm
theorem mods1 {w w1 w2 : World} {g a k c : Nat} (h : Mods [g] w w1) (hm : Mods (Value.slice (some ⟨a, 0, none⟩) k c).ownBlock.toList w1 w2) (ha : a = g ∨ w.heap.size ≤ a) : Mods [g] w w2 :=
  h.trans_new hm (fun r hr => by simp [Value.ownBlock] at hr; subst hr; rcases ha with rfl | ha; exact .inl (by simp); exact .inr ha)
/-- One number of a row is cut off ahead. -/
theorem cut_one (ad : Addr) (n c : Nat) (hn : 1 ≤ n) (hc : n ≤ c) : ∃ ad' : Addr, ad'.block = ad.block ∧ (∀ W : World, (Instr.slice 28 (.slice (some ad) n c) (some (.int .i64 1)) none none).run Try.prog W = .ok (.slice (some ad') (n - 1) (c - 1)) W) ∧ ∀ (w : World) (xs : List Int), ReadsInt w .i64 (some ad) n xs → ReadsInt w .i64 (some ad') (n - 1) (xs.drop 1) := by
  obtain ⟨i0, hi0, hzz⟩ := Option.map_eq_some_iff.1 info_int
  simp only [Prod.mk.injEq] at hzz
  have ht := Try.underlying28
  have hel : Try.prog.elem 28 = 3 := by simp [Program.elem, ht]
  have hu : Try.prog.underlying 28 = some (.slice (Try.prog.elem 28)) := by rw [hel]; exact ht
  refine ⟨if c = 1 then ad else ad.add 1, by split <;> rfl, fun W => ?_, fun w xs h => ?_⟩
  · rw [run_slice_l W 28 (some ad) n c hu .i64 1 (by omega) (by omega), hel]
    simp [sizeOf, typeInfo, hi0, hzz.2.1, sliced, Result.andThen]
    split <;> rfl
  · have := h.drop_ 1 hn hc
    split
    · rename_i e; simpa [e] using this
    · rename_i e; simpa [e] using this

theorem nums_set1 (cur : List Int) (j : Nat) (x : Int) : nums .i64 (cur.set j x) = (nums .i64 cur).set j (.int .i64 x) := by simp [nums, List.map_set]
theorem own_modsD {w w5 : World} {n0 k c n : Nat} {base G : Nat} {e : TypeId} {xs : List Value} (h : w.ownsRow base e 1 (.slice (some ⟨G, 0, none⟩) k c) n xs) (hw : w5 = w.drewN n0) : w5.ownsRow base e 1 (.slice (some ⟨G, 0, none⟩) k c) n xs := by
  subst hw; exact own_modsR (T := []) h ((Mods.refl _ _).drewN _) (by simp)

set_option maxHeartbeats 1000000 in
theorem sorted_small (A : Option Addr) (n c : Nat) (xs : List Int) (B : Nat) (w : World) (hn : n < 2) (HO : w.ownsRow B 3 1 (.slice A n c) n (nums .i64 xs)) :
    Calls Try.prog 73 #[.slice A n c] w fun e w' => e = .returned (.tuple #[]) ∧ ∃ ys, ys.Perm xs ∧ ys.Pairwise (· ≤ ·) ∧ w'.ownsRow B 3 1 (.slice A n c) n (nums .i64 ys) ∧ Mods ((Value.slice A n c).ownBlock.toList) w w' := by
  have hlen : xs.length = n := by have := HO.1; rw [nums_length] at this; omega
  have hpw : xs.Pairwise (· ≤ ·) := by
    match xs, hlen with
    | [], _ => exact List.Pairwise.nil
    | [x], _ => simp
    | _ :: _ :: _, h => simp at h; omega
  have HOO := Lib.hid HO; have HP := Lib.hid hpw
  clear HO hpw hlen
  go_enter Try.func73, Try.ntmps73
  go_wp2_with fail
  refine bodyPost_ret (results_none rfl _ _ _) rfl ?_
  exact ⟨rfl, xs, List.Perm.refl _, HP.out, HOO.out, Mods.refl _ _⟩

set_option maxRecDepth 100000 in
set_option maxHeartbeats 8000000 in
theorem sorted_any : ∀ (N : Nat) (A : Option Addr) (n c : Nat) (xs : List Int) (B : Nat) (w : World), n ≤ N → n ≤ 100000 → w.ownsRow B 3 1 (.slice A n c) n (nums .i64 xs) →
    Calls Try.prog 73 #[.slice A n c] w fun e w' => e = .returned (.tuple #[]) ∧ ∃ ys, ys.Perm xs ∧ ys.Pairwise (· ≤ ·) ∧ w'.ownsRow B 3 1 (.slice A n c) n (nums .i64 ys) ∧ Mods ((Value.slice A n c).ownBlock.toList) w w'
  | 0, A, n, c, xs, B, w, hN, _, HO => sorted_small A n c xs B w (by omega) HO
  | N + 1, A, n, c, xs, B, w, hN, hmax, HO => by
    by_cases h2 : n < 2
    · exact sorted_small A n c xs B w h2 HO
    have IH := Lib.hid (sorted_any N)
    obtain ⟨g, c', hv, hgB⟩ := own_someQ HO (by omega)
    cases hv
    have hgl := own_lt HO g rfl
    have hcap := own_cap HO
    have hlen : xs.length = n := by have := HO.1; rw [nums_length] at this; omega
    obtain ⟨k, hk⟩ : ∃ k : Nat, (n : Int) / 2 = k := ⟨n / 2, by omega⟩
    have hk1 : 1 ≤ k := by omega
    have hk2 : k + 1 ≤ n := by omega
    have hkN : k ≤ N := by omega
    have hnk : n - k ≤ N := by omega
    have HK := Lib.hid hk
    obtain ⟨i0, hi0, hzz⟩ := Option.map_eq_some_iff.1 info_int
    simp only [Prod.mk.injEq] at hzz
    obtain ⟨A', hcut, hrd⟩ := print_cut (P := Try.prog) 28 3 .i64 Try.underlying28 hi0 hzz.2.1 (some ⟨g, 0, none⟩) n c k (by omega)
    have hread := own_reads' HO
    have hrb := hrd w .i64 xs hcap hread
    obtain ⟨ad, rfl, _⟩ := hrb.2.2 (by omega)
    have HRA := Lib.hid (hread.take_ k (by omega)); have HRB := Lib.hid hrb
    have HOO := Lib.hid HO; have HLEN := Lib.hid hlen
    have k1 : (w.alloc (.cells #[] 3)).drew.heap[w.heap.size]? = some (.cells #[] 3 (0, 0)) := World.alloc_heap_new _ _
    have b1 : Below w.heap.size w (w.alloc (.cells #[] 3)).drew := below_drew ((Below.refl _ w).alloc (Nat.le_refl _) _)
    have b2 : Below w.heap.size w ((w.alloc (.cells #[] 3)).alloc (.cells #[] 3)).drew := below_drew (((Below.refl _ w).alloc (Nat.le_refl _) _).alloc (by simp) _)
    have k2 : ((w.alloc (.cells #[] 3)).alloc (.cells #[] 3)).drew.heap[w.heap.size]? = some (.cells #[] 3 (0, 0)) := (Below.heap_alloc _ _ _ (by simp)).trans k1
    have k3 : ((w.alloc (.cells #[] 3)).alloc (.cells #[] 3)).drew.heap[w.heap.size + 1]? = some (.cells #[] 3 (0, 0)) := by
      have := World.alloc_heap_new (w.alloc (.cells #[] 3)) (.cells #[] 3)
      rw [World.size_alloc] at this; exact this
    clear HO hk hread hrb hrd hzz hi0 hlen
    go_enter Try.func73, Try.ntmps73
    go_upto_region 2 with fail
    rw [HK.out]
    go_cut [3, 4] from 12 to 21 (fun va vb w2 => Hid (Two w w2 va vb k (n - k) (xs.take k) (xs.drop k)) ∧ Hid (Below w.heap.size w w2))
    case first =>
      have hk0 : (0 : Int) ≤ (k : Int) := by omega
      have hkn : (k : Int) ≤ (n : Int) := by omega
      have hkc : (k : Int) ≤ (c : Int) := by omega
      go_region_held3 (fun _ => True) (exact trivial) ((first
          | (refine step_append_row (w0 := w) w.heap.size (by rfl) _ _ 28 3 rfl Try.underlying28 info_int (.slice (some ⟨w.heap.size, 0, none⟩) 0 0) 0 [] (xs.take k) ⟨g, 0, none⟩ k c rfl rfl (own_empty k1 (by first | omega | (dsimp only; omega))) (HRA.out.below b1) b1 (by simp [World.drew] <;> omega) (by omega) ?_; intro va w1 hown hB1 hg hat; have HOa := Lib.hid (first_a hown); have HB1 := Lib.hid hB1; have HG1 := Lib.hid hg; have HATa := Lib.hid hat; have hz1 : w.heap.size ≤ w1.heap.size := hB1.size; clear hown hB1 hg hat)
          | (refine step_append_row (w0 := w) w.heap.size (by rfl) _ _ 28 3 rfl Try.underlying28 info_int (.slice (some ⟨w.heap.size, 0, none⟩) 0 0) 0 [] (xs.take k) ⟨g, 0, none⟩ k c rfl rfl (own_empty k2 (by first | omega | (dsimp only; omega))) (HRA.out.below b2) b2 (by simp [World.drew] <;> omega) (by omega) ?_; intro va w1 hown hB1 hg hat; have HOa := Lib.hid (first_a hown); have HB1 := Lib.hid hB1; have HG1 := Lib.hid hg; have HATa := Lib.hid hat; have hz1 : w.heap.size ≤ w1.heap.size := hB1.size; clear hown hB1 hg hat)
          | (refine step_append_row (w0 := w) w.heap.size (by rfl) _ _ 28 3 rfl Try.underlying28 info_int (.slice (some ⟨w.heap.size + 1, 0, none⟩) 0 0) 0 [] (xs.take k) ⟨g, 0, none⟩ k c rfl rfl (own_empty k3 (by first | omega | (dsimp only; omega))) (HRA.out.below b2) b2 (by simp [World.drew] <;> omega) (by omega) ?_; intro va w1 hown hB1 hg hat; have HOa := Lib.hid (first_a hown); have HB1 := Lib.hid hB1; have HG1 := Lib.hid hg; have HATa := Lib.hid hat; have hz1 : w.heap.size ≤ w1.heap.size := hB1.size; clear hown hB1 hg hat)
          | (refine step_append_row (w0 := w) w.heap.size (by rfl) _ _ 28 3 rfl Try.underlying28 info_int (.slice (some ⟨w1.heap.size, 0, none⟩) 0 0) 0 [] (xs.drop k) ad (n - k) (c - k) rfl rfl (own_empty (World.alloc_heap_new _ _) (by first | omega | (dsimp only; omega))) (HRB.out.below (HB1.out.alloc HB1.out.size _)) (HB1.out.alloc HB1.out.size _) (by first | exact hz1 | (simp; omega)) (by omega) ?_; intro vb w2 hown hB2 hg hat; have HTT := Lib.hid ((two_mk (own_alloc HOa.out _) (by omega) (by omega) (fun e => absurd (own_lt HOa.out _ e) (Nat.lt_irrefl _)) hg hat (first_b hown))); have HB2 := Lib.hid hB2; clear hown hB2 hg hat)
          | (refine step_append_row (w0 := w) w.heap.size (by rfl) _ _ 28 3 rfl Try.underlying28 info_int (.slice (some ⟨w.heap.size + 1, 0, none⟩) 0 0) 0 [] (xs.drop k) ad (n - k) (c - k) rfl rfl (own_empty ((HG1.out.block _ (by simp <;> omega) (by simp [Value.ownBlock] <;> omega)).trans k3) (by first | omega | (dsimp only; omega))) (HRB.out.below HB1.out) HB1.out (by first | exact hz1 | (simp; omega)) (by omega) ?_; intro vb w2 hown hB2 hg hat; have HTT := Lib.hid ((two_mk HOa.out (by omega) (by omega) (apart_at HATa.out (by simp [World.drew] <;> omega) (by simp [Value.ownBlock] <;> omega)) hg hat (first_b hown))); have HB2 := Lib.hid hB2; clear hown hB2 hg hat)
          | (refine step_append_row (w0 := w) w.heap.size (by rfl) _ _ 28 3 rfl Try.underlying28 info_int (.slice (some ⟨w.heap.size, 0, none⟩) 0 0) 0 [] (xs.drop k) ad (n - k) (c - k) rfl rfl (own_empty ((HG1.out.block _ (by simp <;> omega) (by simp [Value.ownBlock] <;> omega)).trans k2) (by first | omega | (dsimp only; omega))) (HRB.out.below HB1.out) HB1.out (by first | exact hz1 | (simp; omega)) (by omega) ?_; intro vb w2 hown hB2 hg hat; have HTT := Lib.hid ((two_mk HOa.out (by omega) (by omega) (apart_at HATa.out (by simp [World.drew] <;> omega) (by simp [Value.ownBlock] <;> omega)) hg hat (first_b hown))); have HB2 := Lib.hid hB2; clear hown hB2 hg hat)
          | fail))
      all_goals
        go_wp2_with fail
        go_meet
        exact ⟨HTT, HB2⟩
    case rest =>
      obtain ⟨HTT, HB2⟩ := hcut
      obtain ⟨ga, ca, gb, cb, rfl, rfl, hne, ⟨hga, hgb⟩, hoa, hob⟩ := HTT.out
      have hcaa := own_cap hoa; have hcbb := own_cap hob
      have HOA := Lib.hid hoa; have HOB := Lib.hid hob
      have HOG := Lib.hid (pw_own_below HOO.out HB2.out)
      have HM2 := Lib.hid (Mods.of_below HB2.out [g])
      have hz2 := HB2.out.size
      have hgga : g ≠ ga := by omega
      have hggb : g ≠ gb := by omega
      clear HTT hoa hob HB2 HOO k1 k2 k3 b1 b2 HRA HRB
      go_wp2_with fail
      refine (IH.out (some ⟨ga, 0, none⟩) k ca _ w.heap.size _ hkN (by omega) HOA.out).mono ?_
      rintro e w3 ⟨rfl, us, hp, hs, ho, hm⟩
      have HUS := Lib.hid (And.intro hp hs); have HOA3 := Lib.hid ho; have HM3 := Lib.hid (mods1 HM2.out hm (.inr hga)); have HOB3 := Lib.hid (own_modsR HOB.out hm (not1 hne)); have HOG3 := Lib.hid (own_modsR HOG.out hm (not1 hgga.symm)); have hz3 := hm.size
      clear hp hs ho hm HOA HOB HOG HM2
      go_wp2_with fail
      refine (IH.out (some ⟨gb, 0, none⟩) (n - k) cb _ w.heap.size _ hnk (by omega) HOB3.out).mono ?_
      rintro e w4 ⟨rfl, bs, hp, hs, ho, hm⟩
      have HBS := Lib.hid (And.intro hp hs); have HOB4 := Lib.hid ho; have HM4 := Lib.hid (mods1 HM3.out hm (.inr hgb)); have HOA4 := Lib.hid (own_modsR HOA3.out hm (not1 hne.symm)); have HOG4 := Lib.hid (own_modsR HOG3.out hm (not1 hggb.symm)); have hz4 := hm.size
      clear hp hs ho hm HM3 HOB3 HOG3 HOA3 IH
      have HMG : Hid (Mg xs xs us bs 0) := Lib.hid (Mg.begin HUS.out.1 HUS.out.2 HBS.out.1 HBS.out.2)
      have HR1 := Lib.hid (own_reads' HOA4.out); have HR2 := Lib.hid (own_reads' HOB4.out)
      clear HOA4 HOB4 HUS HBS
      go_wp2_with fail
      go_loopw [3, 4, 5] (fun a b i wr => ∃ (j na nb ca cb : Nat) (pa pb : Addr) (cur us bs : List Int), j ≤ n ∧ na + nb + j = n ∧ na ≤ ca ∧ nb ≤ cb ∧ pa.block = ga ∧ pb.block = gb ∧ a = .slice (some pa) na ca ∧ b = .slice (some pb) nb cb ∧ i = .int .i64 j ∧ Hid (ReadsInt wr .i64 (some pa) na us) ∧ Hid (ReadsInt wr .i64 (some pb) nb bs) ∧ Hid (Mg xs cur us bs j) ∧ Hid (wr.ownsRow B 3 1 (.slice (some ⟨g, 0, none⟩) n c) n (nums .i64 cur)) ∧ Hid (Mods [g] w wr)) (fun _ _ i _ => n - (intOf i).toNat)
      case atStart => exact ⟨0, k, n - k, ca, cb, _, _, xs, us, bs, by omega, by omega, hcaa, hcbb, rfl, rfl, rfl, rfl, rfl, HR1.out, HR2.out, HMG.out, HOG4.out, HM4.out⟩
      case round =>
        clear HMG HR1 HR2 HOG4 HM4 hcaa hcbb
        obtain ⟨j, na, nb, ca, cb, pa, pb, cur, us, bs, hj, hsum, hca, hcb, hpa, hpb, rfl, rfl, rfl, HR1, HR2, HMG, HOG, HM⟩ := hrel
        have hlu := HR1.out.1; have hlb := HR2.out.1
        have hlc : cur.length = n := HMG.out.len.trans HLEN.out
        by_cases hjn : j < n
        · have hcell := (own_reads' HOG.out).2.2 (by omega)
          obtain ⟨ad0, ha0, hcell⟩ := hcell
          cases ha0
          have hcl := hcell j hjn
          rw [add_plain] at hcl
          have hfz : wr.frozen? ⟨g, j, none⟩ = false := by
            rcases HOG.out.2 with ⟨h, _⟩ | ⟨g', cap, cur', h1, _, hh, _⟩
            · cases h
            · cases h1; exact free_blk hh _
          clear hcell
          by_cases hnb : nb = 0
          · subst hnb
            have hbs0 : bs = [] := List.length_eq_zero_iff.1 hlb
            match us, hlu, HR1, HMG with
            | [], hlu, _, _ => simp at hlu; omega
            | x :: us, hlu, HR1, HMG =>
              have hca0 : wr.cell? pa = some (.int .i64 x) := by
                obtain ⟨q, hq, h⟩ := HR1.out.2.2 (by omega)
                cases hq; have := h 0 (by omega); rwa [Addr.add_zero'] at this
              have HST := Lib.hid (HMG.out.left (by omega) (by simp [hbs0]))
              
              obtain ⟨pq, hpq, hcut1, hrd1⟩ := cut_one pa na ca (by omega) (by omega)
              have HRQ := Lib.hid (hrd1 wr _ HR1.out)
              clear hrd1
              go_wp2_with fail
              go_quiet (fail)
              obtain ⟨w5, hw5⟩ : ∃ w5, w5 = wr.drewN nq := ⟨_, rfl⟩
              have hM5 : Mods [g] wr w5 := hw5 ▸ (Mods.refl _ _).drewN _
              have hv5 : w5.cell? pa = some (.int .i64 x) := by rw [hw5]; assumption
              have hl5 : w5.cell? ⟨g, j, none⟩ = some (.int .i64 (cur.getD j 0)) := by rw [hw5]; assumption
              have hf5 : w5.frozen? ⟨g, j, none⟩ = false := by rw [hw5]; exact hfz
              have HO5 := Lib.hid (own_modsD HOG.out hw5)
              rw [← hw5]
              clear hw5 hfz hcl
              go_wp2_with fail
              go_roundw
              case rel =>
                have hmm : Mods [g] wr (w5.setCell ⟨g, j, none⟩ (.int .i64 x)) := hM5.setCell (p := ⟨g, j, none⟩) (.inl (by simp)) _
                have hst := (World.ownsRow.stored HO5.out j (.int .i64 x)).1
                rw [← nums_set1] at hst
                exact ⟨j + 1, na - 1, _, ca - 1, cb, pq, pb, cur.set j x, us, _, by omega, by omega, by omega, hcb, hpq.trans hpa, hpb, rfl, rfl, by go_num, ReadsInt.mods HRQ.out hmm (by intro ad h; cases h; simp [hpq, hpa]; omega), ReadsInt.mods HR2.out hmm (by intro ad h; cases h; simp [hpb]; omega), HST.out, hst, HM.out.trans hmm⟩
              case measure => simp [intOf]; omega
          · match bs, hlb, HR2, HMG with
            | [], hlb, _, _ => simp at hlb; omega
            | y :: bs, hlb, HR2, HMG =>
              have hcb0 : wr.cell? pb = some (.int .i64 y) := by
                obtain ⟨q, hq, h⟩ := HR2.out.2.2 (by omega)
                cases hq; have := h 0 (by omega); rwa [Addr.add_zero'] at this
              have hd1 : ((nb : Int) == 0) = false := by simp; omega
              by_cases hna : na = 0
              · subst hna
                have hus0 : us = [] := List.length_eq_zero_iff.1 hlu
                have HST := Lib.hid (HMG.out.right (by omega) (by simp [hus0]))
                
                obtain ⟨pq, hpq, hcut1, hrd1⟩ := cut_one pb nb cb (by omega) (by omega)
                have HRQ := Lib.hid (hrd1 wr _ HR2.out)
                clear hrd1
                go_wp2_with fail
                go_quiet (fail)
                obtain ⟨w5, hw5⟩ : ∃ w5, w5 = wr.drewN nq := ⟨_, rfl⟩
                have hM5 : Mods [g] wr w5 := hw5 ▸ (Mods.refl _ _).drewN _
                have hv5 : w5.cell? pb = some (.int .i64 y) := by rw [hw5]; assumption
                have hl5 : w5.cell? ⟨g, j, none⟩ = some (.int .i64 (cur.getD j 0)) := by rw [hw5]; assumption
                have hf5 : w5.frozen? ⟨g, j, none⟩ = false := by rw [hw5]; exact hfz
                have HO5 := Lib.hid (own_modsD HOG.out hw5)
                rw [← hw5]
                clear hw5 hfz hcl
                go_wp2_with fail
                go_roundw
                case rel =>
                  have hmm : Mods [g] wr (w5.setCell ⟨g, j, none⟩ (.int .i64 y)) := hM5.setCell (p := ⟨g, j, none⟩) (.inl (by simp)) _
                  have hst := (World.ownsRow.stored HO5.out j (.int .i64 y)).1
                  rw [← nums_set1] at hst
                  exact ⟨j + 1, _, nb - 1, ca, cb - 1, pa, pq, cur.set j y, _, bs, by omega, by omega, hca, by omega, hpa, hpq.trans hpb, rfl, rfl, by go_num, ReadsInt.mods HR1.out hmm (by intro ad h; cases h; simp [hpa]; omega), ReadsInt.mods HRQ.out hmm (by intro ad h; cases h; simp [hpq, hpb]; omega), HST.out, hst, HM.out.trans hmm⟩
                case measure => simp [intOf]; omega
              · match us, hlu, HR1, HMG with
                | [], hlu, _, _ => simp at hlu; omega
                | x :: us, hlu, HR1, HMG =>
                  have hca0 : wr.cell? pa = some (.int .i64 x) := by
                    obtain ⟨q, hq, h⟩ := HR1.out.2.2 (by omega)
                    cases hq; have := h 0 (by omega); rwa [Addr.add_zero'] at this
                  have hd2 : decide (0 < na) = true := by simp; omega
                  by_cases hxy : x ≤ y
                  · have hd3 : decide (x ≤ y) = true := by simp [hxy]
                    have HST := Lib.hid (HMG.out.left (by omega) (fun z hz => by rcases List.mem_cons.1 hz with rfl | hz; exact hxy; exact Int.le_trans hxy ((List.pairwise_cons.1 HMG.out.sb).1 z hz)))
                    clear hxy
                    obtain ⟨pq, hpq, hcut1, hrd1⟩ := cut_one pa na ca (by omega) (by omega)
                    have HRQ := Lib.hid (hrd1 wr _ HR1.out)
                    clear hrd1
                    go_wp2_with fail
                    go_quiet (fail)
                    obtain ⟨w5, hw5⟩ : ∃ w5, w5 = wr.drewN nq := ⟨_, rfl⟩
                    have hM5 : Mods [g] wr w5 := hw5 ▸ (Mods.refl _ _).drewN _
                    have hv5 : w5.cell? pa = some (.int .i64 x) := by rw [hw5]; assumption
                    have hl5 : w5.cell? ⟨g, j, none⟩ = some (.int .i64 (cur.getD j 0)) := by rw [hw5]; assumption
                    have hf5 : w5.frozen? ⟨g, j, none⟩ = false := by rw [hw5]; exact hfz
                    have HO5 := Lib.hid (own_modsD HOG.out hw5)
                    rw [← hw5]
                    clear hw5 hfz hcl
                    go_wp2_with fail
                    go_roundw
                    case rel =>
                      have hmm : Mods [g] wr (w5.setCell ⟨g, j, none⟩ (.int .i64 x)) := hM5.setCell (p := ⟨g, j, none⟩) (.inl (by simp)) _
                      have hst := (World.ownsRow.stored HO5.out j (.int .i64 x)).1
                      rw [← nums_set1] at hst
                      exact ⟨j + 1, na - 1, _, ca - 1, cb, pq, pb, cur.set j x, us, _, by omega, by omega, by omega, hcb, hpq.trans hpa, hpb, rfl, rfl, by go_num, ReadsInt.mods HRQ.out hmm (by intro ad h; cases h; simp [hpq, hpa]; omega), ReadsInt.mods HR2.out hmm (by intro ad h; cases h; simp [hpb]; omega), HST.out, hst, HM.out.trans hmm⟩
                    case measure => simp [intOf]; omega
                  · have hd3 : decide (x ≤ y) = false := by simp; omega
                    have HST := Lib.hid (HMG.out.right (by omega) (fun z hz => by rcases List.mem_cons.1 hz with rfl | hz; omega; exact Int.le_trans (by omega) ((List.pairwise_cons.1 HMG.out.sa).1 z hz)))
                    clear hxy
                    obtain ⟨pq, hpq, hcut1, hrd1⟩ := cut_one pb nb cb (by omega) (by omega)
                    have HRQ := Lib.hid (hrd1 wr _ HR2.out)
                    clear hrd1
                    go_wp2_with fail
                    go_quiet (fail)
                    obtain ⟨w5, hw5⟩ : ∃ w5, w5 = wr.drewN nq := ⟨_, rfl⟩
                    have hM5 : Mods [g] wr w5 := hw5 ▸ (Mods.refl _ _).drewN _
                    have hv5 : w5.cell? pb = some (.int .i64 y) := by rw [hw5]; assumption
                    have hl5 : w5.cell? ⟨g, j, none⟩ = some (.int .i64 (cur.getD j 0)) := by rw [hw5]; assumption
                    have hf5 : w5.frozen? ⟨g, j, none⟩ = false := by rw [hw5]; exact hfz
                    have HO5 := Lib.hid (own_modsD HOG.out hw5)
                    rw [← hw5]
                    clear hw5 hfz hcl
                    go_wp2_with fail
                    go_roundw
                    case rel =>
                      have hmm : Mods [g] wr (w5.setCell ⟨g, j, none⟩ (.int .i64 y)) := hM5.setCell (p := ⟨g, j, none⟩) (.inl (by simp)) _
                      have hst := (World.ownsRow.stored HO5.out j (.int .i64 y)).1
                      rw [← nums_set1] at hst
                      exact ⟨j + 1, _, nb - 1, ca, cb - 1, pa, pq, cur.set j y, _, bs, by omega, by omega, hca, by omega, hpa, hpq.trans hpb, rfl, rfl, by go_num, ReadsInt.mods HR1.out hmm (by intro ad h; cases h; simp [hpa]; omega), ReadsInt.mods HRQ.out hmm (by intro ad h; cases h; simp [hpq, hpb]; omega), HST.out, hst, HM.out.trans hmm⟩
                    case measure => simp [intOf]; omega
        · obtain rfl : j = n := by omega
          obtain rfl : na = 0 := by omega
          obtain rfl : nb = 0 := by omega
          obtain rfl : us = [] := List.length_eq_zero_iff.1 hlu
          obtain rfl : bs = [] := List.length_eq_zero_iff.1 hlb
          go_wp2_with fail
          refine bodyPost_end (results_none rfl _ _ _) rfl ?_
          have h := HMG.out.ends hlc.symm
          exact ⟨rfl, cur, h.1, h.2, HOG.out, HM.out⟩
end Go.Proofs.Ytoanhnebalapeaa
