/- The library's choice of a pivot at 32-bit numbers. -/
import Derived.Test.YtmgkdlkjcncniaaSrtB
namespace Go.Proofs.Ytmgkdlkjcncniaa
open Go.RowKit
open Go.Proofs.YtmgkdlkjcncniaaW.PrintWords

theorem order2_lt {d : Array Int} {a b s n : Nat} (ha : a < n) (hb : b < n) : (Sort.order2 Sort.ltInt d a b s).1 < n ∧ (Sort.order2 Sort.ltInt d a b s).2.1 < n ∧ (Sort.order2 Sort.ltInt d a b s).2.2 ≤ s + 1 := by
  unfold Sort.order2; split <;> simp <;> omega

def SwapBox (w : World) (q s : Nat) : Prop := ∃ T, w.heap[q]? = some (.cells #[.int .i64 s] T (0, 0))
theorem SwapBox.cell {w : World} {q s : Nat} (h : SwapBox w q s) : w.cell? ⟨q, 0, none⟩ = some (.int .i64 s) := by obtain ⟨T, h⟩ := h; rw [cell_blk h]; rfl
theorem SwapBox.free {w : World} {q s : Nat} (h : SwapBox w q s) : w.frozen? ⟨q, 0, none⟩ = false := by obtain ⟨T, h⟩ := h; exact free_blk h _
theorem SwapBox.set {w : World} {q s : Nat} (h : SwapBox w q s) (t : Nat) : SwapBox (w.setCell ⟨q, 0, none⟩ (.int .i64 t)) q t := by obtain ⟨T, h⟩ := h; exact ⟨T, blk_set h 0 _⟩
theorem SwapBox.mods {S : List Nat} {w w' : World} {q s : Nat} (h : SwapBox w q s) (hm : Mods S w w') (hs : q ∉ S) : SwapBox w' q s := by obtain ⟨T, h⟩ := h; exact ⟨T, hm.blk h hs⟩

theorem results_two {fn : Func} {t u : Tmp} (h : fn.results = #[.tmp t, .tmp u]) (tmps : Array Value) (P : Program) (w : World) :
    (results fn tmps).run P w = .ok (.tuple #[tmps.getD t undef, tmps.getD u undef]) w := by simp [results, h]

set_option maxHeartbeats 1000000 in
theorem order2U (base g n cap a b q s : Nat) (d : Array Int) (w : World) (_hn : n ≤ 1152921504606846975) (hs : s ≤ 1000) (ha : a < n) (hb : b < n) (H : RowU w base g n cap d) (HS : SwapBox w q s) :
    Calls Try.prog 62 #[.slice (some ⟨g, 0, none⟩) n cap, .int .i64 a, .int .i64 b, .pointer (some ⟨q, 0, none⟩)] w
      fun e w' => e = .returned (.tuple #[.int .i64 (Sort.order2 Sort.ltInt d a b s).1, .int .i64 (Sort.order2 Sort.ltInt d a b s).2.1]) ∧ SwapBox w' q (Sort.order2 Sort.ltInt d a b s).2.2 ∧ Mods [q] w w' := by
  obtain ⟨c1, f1⟩ := H.at_ b hb
  obtain ⟨c2, f2⟩ := H.at_ a ha
  have hb1 : (b : Int) < n := by omega
  have ha1 : (a : Int) < n := by omega
  have hT : Sort.ltInt d[b]! d[a]! = true → Sort.order2 Sort.ltInt d a b s = (b, a, s + 1) := fun h => by unfold Sort.order2; rw [if_pos h]
  have hF : Sort.ltInt d[b]! d[a]! = false → Sort.order2 Sort.ltInt d a b s = (a, b, s) := fun h => by unfold Sort.order2; rw [if_neg (by simp [h])]
  have HT := Lib.hid hT; have HF := Lib.hid hF
  clear H hT hF
  generalize Sort.order2 Sort.ltInt d a b s = r at *
  generalize d[b]! = x at *
  generalize d[a]! = y at *
  have hl' : ∀ m, (w.drewN m).cell? ⟨q, 0, none⟩ = some (.int .i64 s) := fun m => (HS.mods ((Mods.refl [] w).drewN m) (by simp)).cell
  have hf' : ∀ m, (w.drewN m).frozen? ⟨q, 0, none⟩ = false := fun m => (HS.mods ((Mods.refl [] w).drewN m) (by simp)).free
  have HH := Lib.hid HS
  clear HS
  go_enter Try.func62, Try.ntmps62
  go_wp2
  go_quiet (first | (go_at_call 48; refine Calls.quiet_of_same (less_any _ _ _)))
  have hc := hl' nq; have hf := hf' nq
  clear hl' hf'
  go_wp2
  · rw [HT.out (by assumption)]
    refine bodyPost_ret (results_two rfl _ _ _) rfl ?_
    refine ⟨rfl, ?_, (((Mods.refl [q] w).drewN _).setCell (.inl (by simp)) _)⟩
    have := (HH.out.mods ((Mods.refl [] w).drewN nq) (by simp)).set (s + 1)
    exact this
  · rw [HF.out (by first | assumption | simp_all)]
    refine bodyPost_ret (results_two rfl _ _ _) rfl ?_
    exact ⟨rfl, HH.out.mods ((Mods.refl [] w).drewN nq) (by simp), (Mods.refl [q] w).drewN _⟩

theorem median_eq (d : Array Int) (a b c s : Nat) : Sort.median Sort.ltInt d a b c s =
  ((Sort.order2 Sort.ltInt d (Sort.order2 Sort.ltInt d a b s).1 (Sort.order2 Sort.ltInt d (Sort.order2 Sort.ltInt d a b s).2.1 c (Sort.order2 Sort.ltInt d a b s).2.2).1 (Sort.order2 Sort.ltInt d (Sort.order2 Sort.ltInt d a b s).2.1 c (Sort.order2 Sort.ltInt d a b s).2.2).2.2).2.1,
   (Sort.order2 Sort.ltInt d (Sort.order2 Sort.ltInt d a b s).1 (Sort.order2 Sort.ltInt d (Sort.order2 Sort.ltInt d a b s).2.1 c (Sort.order2 Sort.ltInt d a b s).2.2).1 (Sort.order2 Sort.ltInt d (Sort.order2 Sort.ltInt d a b s).2.1 c (Sort.order2 Sort.ltInt d a b s).2.2).2.2).2.2) := rfl
theorem median_lt {d : Array Int} {a b c s n : Nat} (ha : a < n) (hb : b < n) (hc : c < n) : (Sort.median Sort.ltInt d a b c s).1 < n ∧ (Sort.median Sort.ltInt d a b c s).2 ≤ s + 3 := by
  rw [median_eq]
  have h1 := order2_lt (d := d) (s := s) ha hb
  have h2 := order2_lt (d := d) (s := (Sort.order2 Sort.ltInt d a b s).2.2) h1.2.1 hc
  have h3 := order2_lt (d := d) (s := (Sort.order2 Sort.ltInt d (Sort.order2 Sort.ltInt d a b s).2.1 c (Sort.order2 Sort.ltInt d a b s).2.2).2.2) h1.1 h2.1
  exact ⟨h3.2.1, by dsimp only; omega⟩

set_option maxHeartbeats 1000000 in
theorem medianU (base g n cap a b c q s : Nat) (d : Array Int) (w : World) (hn : n ≤ 1152921504606846975) (hs : s ≤ 900) (ha : a < n) (hb : b < n) (hc : c < n) (hgq : g ≠ q) (H : RowU w base g n cap d) (HS : SwapBox w q s) :
    Calls Try.prog 60 #[.slice (some ⟨g, 0, none⟩) n cap, .int .i64 a, .int .i64 b, .int .i64 c, .pointer (some ⟨q, 0, none⟩)] w
      fun e w' => e = .returned (.int .i64 (Sort.median Sort.ltInt d a b c s).1) ∧ SwapBox w' q (Sort.median Sort.ltInt d a b c s).2 ∧ Mods [q] w w' := by
  rw [median_eq]
  have hp1 := order2_lt (d := d) (s := s) ha hb
  have hp2 := order2_lt (d := d) (s := (Sort.order2 Sort.ltInt d a b s).2.2) hp1.2.1 hc
  have hp3 := order2_lt (d := d) (s := (Sort.order2 Sort.ltInt d (Sort.order2 Sort.ltInt d a b s).2.1 c (Sort.order2 Sort.ltInt d a b s).2.2).2.2) hp1.1 hp2.1
  have k1 := order2U base g n cap a b q s d w hn (by omega) ha hb H HS
  have k2 := fun w1 h1 h2 => order2U base g n cap (Sort.order2 Sort.ltInt d a b s).2.1 c q (Sort.order2 Sort.ltInt d a b s).2.2 d w1 hn (by omega) hp1.2.1 hc h1 h2
  have k3 := fun w1 h1 h2 => order2U base g n cap (Sort.order2 Sort.ltInt d a b s).1 (Sort.order2 Sort.ltInt d (Sort.order2 Sort.ltInt d a b s).2.1 c (Sort.order2 Sort.ltInt d a b s).2.2).1 q (Sort.order2 Sort.ltInt d (Sort.order2 Sort.ltInt d a b s).2.1 c (Sort.order2 Sort.ltInt d a b s).2.2).2.2 d w1 hn (by omega) hp1.1 hp2.1 h1 h2
  generalize Sort.order2 Sort.ltInt d (Sort.order2 Sort.ltInt d a b s).1 (Sort.order2 Sort.ltInt d (Sort.order2 Sort.ltInt d a b s).2.1 c (Sort.order2 Sort.ltInt d a b s).2.2).1 (Sort.order2 Sort.ltInt d (Sort.order2 Sort.ltInt d a b s).2.1 c (Sort.order2 Sort.ltInt d a b s).2.2).2.2 = r3 at *
  generalize Sort.order2 Sort.ltInt d (Sort.order2 Sort.ltInt d a b s).2.1 c (Sort.order2 Sort.ltInt d a b s).2.2 = r2 at *
  generalize Sort.order2 Sort.ltInt d a b s = r1 at *
  have K1 := Lib.hid k1; have K2 := Lib.hid k2; have K3 := Lib.hid k3; have HH := Lib.hid H
  clear k1 k2 k3 H HS hp1 hp2 hp3
  go_enter Try.func60, Try.ntmps60
  go_wp2_with fail
  refine K1.out.mono ?_
  rintro e w1 ⟨rfl, hs1, hm1⟩
  have HS1 := Lib.hid hs1; have HM1 := Lib.hid hm1
  clear hs1 hm1
  go_wp2_with fail
  refine (K2.out w1 (HH.out.mods HM1.out (by simpa using hgq)) HS1.out).mono ?_
  rintro e w2 ⟨rfl, hs2, hm2⟩
  have HS2 := Lib.hid hs2; have HM2 := Lib.hid (HM1.out.trans hm2)
  clear hs2 hm2
  go_wp2_with fail
  refine (K3.out w2 (HH.out.mods HM2.out (by simpa using hgq)) HS2.out).mono ?_
  rintro e w3 ⟨rfl, hs3, hm3⟩
  have HS3 := Lib.hid hs3; have HM3 := Lib.hid (HM2.out.trans hm3)
  clear hs3 hm3
  go_wp2_with fail
  go_ret
  exact ⟨rfl, HS3.out, HM3.out⟩

set_option maxHeartbeats 1000000 in
theorem medianAdjU (base g n cap a q s : Nat) (d : Array Int) (w : World) (hn : n ≤ 1152921504606846975) (hs : s ≤ 900) (ha : 1 ≤ a) (hb : a + 1 < n) (hgq : g ≠ q) (H : RowU w base g n cap d) (HS : SwapBox w q s) :
    Calls Try.prog 59 #[.slice (some ⟨g, 0, none⟩) n cap, .int .i64 a, .pointer (some ⟨q, 0, none⟩)] w
      fun e w' => e = .returned (.int .i64 (Sort.medianAdjacent Sort.ltInt d a s).1) ∧ SwapBox w' q (Sort.medianAdjacent Sort.ltInt d a s).2 ∧ Mods [q] w w' := by
  obtain ⟨k, rfl⟩ : ∃ k, a = k + 1 := ⟨a - 1, by omega⟩
  have k1 := medianU base g n cap k (k + 1) (k + 1 + 1) q s d w hn hs (by omega) (by omega) (by omega) hgq H HS
  have e : Sort.medianAdjacent Sort.ltInt d (k + 1) s = Sort.median Sort.ltInt d k (k + 1) (k + 1 + 1) s := rfl
  rw [e]
  have K1 := Lib.hid k1
  clear k1 H HS e
  go_enter Try.func59, Try.ntmps59
  go_wp2_with fail
  refine K1.out.mono ?_
  rintro e w1 ⟨rfl, hs1, hm1⟩
  go_wp2_with fail
  go_ret
  exact ⟨rfl, hs1, hm1⟩
end Go.Proofs.Ytmgkdlkjcncniaa
