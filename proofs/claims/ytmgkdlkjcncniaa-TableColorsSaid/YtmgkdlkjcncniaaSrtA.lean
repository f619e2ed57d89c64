/- The library's sort at 32-bit numbers: a row of them, the comparison, the insertion sort. -/
import Derived.Test.YtmgkdlkjcncniaaTypes
import Derived.Sort.AssemblyPlain
import Derived.Sort.Row
namespace Go.Proofs.Ytmgkdlkjcncniaa
open Go.RowKit
open Go.Proofs.YtmgkdlkjcncniaaW.PrintWords

theorem less_any (x y : Int) (w : World) : Calls Try.prog 48 #[.int .u32 x, .int .u32 y] w fun e w' => e = .returned (.bool (Sort.ltInt x y)) ∧ w' = w := by
  unfold Sort.ltInt
  have hn : ∀ z : Int, Calls Try.prog 61 #[.int .u32 z] w fun e w' => e = .returned (.bool false) ∧ w' = w := by
    intro z
    go_enter Try.func61, Try.ntmps61
    go_wp2_with fail
    go_ret
    exact ⟨by simp, rfl⟩
  go_enter Try.func48, Try.ntmps48
  go_wp2_with (go_at_call 61; refine (hn _).mono ?_; rintro e w' ⟨rfl, rfl⟩)
  go_ret
  exact ⟨rfl, rfl⟩

/-- The row that is sorted: block b. -/
def RowU (w : World) (base b n cap : Nat) (d : Array Int) : Prop := w.ownsRow base 31 1 (.slice (some ⟨b, 0, none⟩) n cap) n (nums .u32 d.toList)

theorem RowU.size {w : World} {base b n cap : Nat} {d : Array Int} (H : RowU w base b n cap d) : d.size = n := by have := H.1; simpa [nums] using this
theorem RowU.set {w : World} {base b n cap : Nat} {d : Array Int} (H : RowU w base b n cap d) (i : Nat) (x : Int) : RowU (w.setCell ⟨b, i, none⟩ (.int .u32 x)) base b n cap (d.setIfInBounds i x) := by
  have := (World.ownsRow.stored H i (.int .u32 x)).1
  unfold RowU
  rw [Array.toList_setIfInBounds, show nums .u32 (d.toList.set i x) = (nums .u32 d.toList).set i (.int .u32 x) by simp [nums, List.map_set]]
  exact this
theorem RowU.swp {w : World} {base b n cap : Nat} {d : Array Int} (H : RowU w base b n cap d) (i j : Nat) : RowU ((w.setCell ⟨b, i, none⟩ (.int .u32 d[j]!)).setCell ⟨b, j, none⟩ (.int .u32 d[i]!)) base b n cap (Sort.swp d i j) := (H.set i _).set j _
theorem RowU.mods {S : List Nat} {w w' : World} {base b n cap : Nat} {d : Array Int} (H : RowU w base b n cap d) (hm : Mods S w w') (hb : b ∉ S) : RowU w' base b n cap d := by
  refine ⟨H.1, ?_⟩
  rcases H.2 with ⟨h', _⟩ | ⟨g, c, cur, h', h1, h2, h3⟩
  · cases h'
  · injection h' with h4 h5 h6
    injection h4 with h4
    injection h4 with h4
    subst h4 h6
    exact .inr ⟨b, cap, cur, rfl, h1, hm.blk h2 hb, h3⟩
theorem RowU.drewN {w : World} {base b n cap : Nat} {d : Array Int} (H : RowU w base b n cap d) (m : Nat) : RowU (w.drewN m) base b n cap d := H.mods ((Mods.refl [] _).drewN m) (by simp)
theorem RowU.drew {w : World} {base b n cap : Nat} {d : Array Int} (H : RowU w base b n cap d) : RowU w.drew base b n cap d := World.ownsRow.drew H
theorem RowU.at_ {w : World} {base b n cap : Nat} {d : Array Int} (H : RowU w base b n cap d) (i : Nat) (hi : i < n) : w.cell? ⟨b, i, none⟩ = some (.int .u32 d[i]!) ∧ w.frozen? ⟨b, i, none⟩ = false := by
  obtain ⟨h1, h2⟩ := own_at H (i : Int) (by omega) (by omega)
  rw [Int.toNat_natCast] at h1 h2
  have hs := H.size
  refine ⟨?_, h2⟩
  rw [h1]
  have : d[i]! = d.toList.getD i 0 := by
    rw [getElem!_pos d i (by omega), List.getD_eq_getElem?_getD, List.getElem?_eq_getElem (by simpa using (by omega : i < d.size))]
    simp
  rw [this]; rfl

/-- A callee that only reads, inside a second region that only reads. -/
theorem quiet_two {P : Program} {f : FuncId} {args : Array Value} {w : World} {q n : Nat} {v : Value}
    (h : Calls P f args (w.drewN (q + n)) fun e w' => e = .returned v ∧ w' = w.drewN (q + n)) : Calls P f args (w.drewN (q + n)) fun e w'' => e = .returned v ∧ ∃ m, w'' = w.drewN (q + m) :=
  h.mono fun _ _ ⟨he, hm⟩ => ⟨he, n, hm⟩

/-- Behind the first of the two stores of an exchange. -/
theorem RowU.at2 {w : World} {base b n cap : Nat} {d : Array Int} (H : RowU w base b n cap d) (i j : Nat) (hi : i < n) (hj : j < n) : (w.setCell ⟨b, i, none⟩ (.int .u32 d[j]!)).cell? ⟨b, j, none⟩ = some (.int .u32 d[j]!) ∧ (w.setCell ⟨b, i, none⟩ (.int .u32 d[j]!)).frozen? ⟨b, j, none⟩ = false := by
  have h := (H.set i d[j]!).at_ j hj
  have hs := H.size
  have e : (d.setIfInBounds i d[j]!)[j]! = d[j]! := by
    by_cases hij : j = i
    · subst hij; exact Sort.getElem!_set_same d j _ (by omega)
    · exact Sort.getElem!_set_other d i j _ hij
  rw [e] at h
  exact h
end Go.Proofs.Ytmgkdlkjcncniaa
