/- The laws of layer 5. -/
import Derived.Test.YtoanhnebalapeaaTree4
import Derived.Test.YtoanhnebalapeaaRefTree
namespace Go.Proofs.Ytoanhnebalapeaa
open Go.RowKit
open Go.Proofs.YtoanhnebalapeaaW.PrintWords
open Srt

theorem Rdr.mods2 {S : List Nat} {w w' : World} {g : Nat} {A : Option Addr} {bs : List Int} {p : Nat} {o : Bool} (h : Rdr w g A bs p o) (hm : Mods S w w') (hg : g ∉ S) (hs : bs ≠ [] → ∀ ad, A = some ad → ad.block ∉ S) : Rdr w' g A bs p o := by
  by_cases hb : bs = []
  · subst hb
    obtain ⟨h1, h2, h3, ⟨c, hb⟩, hr, hn⟩ := h
    exact ⟨h1, h2, h3, ⟨c, hm.blk hb hg⟩, ⟨rfl, by simp, fun h => absurd h (by simp)⟩, hn⟩
  · exact h.mods hm hg (hs hb)
theorem Rdr.blk {w : World} {g : Nat} {A : Option Addr} {bs : List Int} {p : Nat} {o : Bool} (h : Rdr w g A bs p o) (hb : bs ≠ []) : ∀ ad, A = some ad → ad.block < w.heap.size := by
  intro ad e
  have hp : 0 < bs.length := List.length_pos_iff.2 hb
  obtain ⟨_, _, _, _, hr, _⟩ := h
  obtain ⟨d, e2, hc⟩ := hr.2.2 hp
  rw [e] at e2
  cases e2
  exact World.block_lt_of_cell? w _ (hc 0 hp)

theorem found212 : Found [2, 1, 2] [3] 0 2 2 := by
  refine ⟨by decide, by decide, by decide, by decide, by decide, fun m h1 h2 => ?_⟩
  obtain rfl : m = 1 := by omega
  decide

set_option maxHeartbeats 1000000 in
theorem answers05 (w : World) : Calls Try.prog 36 #[] w fun e w' => e = .returned (.bool true) ∧ Below w.heap.size w w' := by
  have HZ := Lib.hid (show checkS [2, 1, 2] = 0 from by decide)
  have HONE := Lib.hid (show (oneS [2, 1, 2]).2 = false from by decide)
  have HH := Lib.hid (show hasS [2, 1, 2] 0 = true from by decide)
  have HC := Lib.hid (show costS [2, 1, 2] 0 = 2 from by decide)
  have HF := Lib.hid found212
  go_enter Try.func36, Try.ntmps36
  go_wp2_with fail
  refine (tree_new (some ⟨w.heap.size, 0, none⟩) 3 3 [2, 1, 2] _ (reads_lit w 3 .i64 [2, 1, 2] (by decide)) (by decide) (by decide) HZ.out).mono ?_
  rintro e w1 ⟨hB1, B, os, rfl, hB, hT⟩
  have HB1 := Lib.hid (show Below w.heap.size w w1 from ((Below.refl _ w).alloc (Nat.le_refl _) _).trans (hB1.mono (by simp))); have HT := Lib.hid hT
  have hs1 := HB1.out.size
  clear hB1 hT hB
  go_wp2_with fail
  refine (newReader (some ⟨w1.heap.size, 0, none⟩) 1 1 [3] _ (reads_lit w1 5 .u8 [3] (by decide)) (by decide) (by decide)).mono ?_
  rintro e w2 ⟨g, A', rfl, hg, hA', hR, hB2⟩
  have hB2' : Below w1.heap.size w1 w2 := ((Below.refl _ w1).alloc (Nat.le_refl _) _).trans (hB2.mono (by simp))
  have hT2 := HT.out.below hB2'
  have hg' : w1.heap.size ≤ g := by simp at hg; omega
  have HB2 := Lib.hid (below_then HB1.out hs1 hB2'); have HT2 := Lib.hid hT2; have HR := Lib.hid hR; have HG := Lib.hid hg'
  clear hB2 hB2' hT2 hR hg' hg hA'
  go_wp2_with fail
  refine (read_in B w1.heap.size g [2, 1, 2] os A' [3] 0 2 2 w2 HT2.out HONE.out HR.out HG.out HF.out (by decide)).mono ?_
  rintro e w3 ⟨rfl, hR3, hM3⟩
  have HT3 := Lib.hid (HT2.out.mods hM3 (by have := HG.out; simpa using this))
  have HB3 := Lib.hid (Below.then_mods HB2.out HB2.out.size hM3 (by have := HG.out; simp; omega))
  clear hR3 hM3
  go_wp2_with (go_at_call 43; refine (cost_any B w1.heap.size [2, 1, 2] os 0 w3 HT3.out).mono ?_; rintro e w' ⟨rfl, rfl⟩; rw [HH.out, HC.out])
  go_ret
  exact ⟨rfl, HB3.out⟩
end Go.Proofs.Ytoanhnebalapeaa
