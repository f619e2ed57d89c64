/- What size.single and size.merged do. -/
import Derived.Test.YtoanhnebalapeaaSizeW
import Derived.Test.YtoanhnebalapeaaSortQ4
namespace Go.Proofs.Ytoanhnebalapeaa
open Go.RowKit
open Go.Proofs.YtoanhnebalapeaaW.PrintWords
open Srt

theorem info_parcel : (Try.prog.info? 96).map (fun i => (i.zero, i.size, i.bytes)) = some (some (.agg #[.int .i64 0, .slice none 0 0]), 2, 32) := by kernel_rfl

/-- A row of parcels that is read: block b from its head. -/
def ReadsQ (w : World) (b n : Nat) (ps : List Parcel) : Prop := ps.length = n ∧ ∀ j u, (pcs ps)[j]? = some u → w.cell? ⟨b, j, none⟩ = some u
theorem RowQ.reads {w : World} {base b n cap : Nat} {xs : List Parcel} (H : RowQ w base b n cap xs) : ReadsQ w b n xs := by
  obtain ⟨cur, hb, hs, ht, hc⟩ := H.blk
  refine ⟨H.length, fun j u h => ?_⟩
  rw [cell_blk hb]
  have hj : j < (pcs xs).length := (List.getElem?_eq_some_iff.1 h).1
  rw [pcs_length, H.length] at hj
  rw [← ht, List.getElem?_take_of_lt hj] at h
  simpa using h
theorem ReadsQ.mods {T : List Nat} {w w' : World} {b n : Nat} {ps : List Parcel} (h : ReadsQ w b n ps) (hm : Mods T w w') (hb : b ∉ T) : ReadsQ w' b n ps :=
  ⟨h.1, fun j u hj => (World.cell?_of_block (w := w) (hm.block b (World.block_lt_of_cell? w _ (h.2 j u hj)) hb)).trans (h.2 j u hj)⟩
theorem pcs_append (xs ys : List Parcel) : pcs (xs ++ ys) = pcs xs ++ pcs ys := by simp [pcs]
theorem pcs_one (ps : List Parcel) : ∀ u ∈ pcs ps, u.oneCell' = true := by
  intro u hu
  unfold pcs at hu
  obtain ⟨p, _, hp⟩ := List.mem_flatMap.1 hu
  unfold Parcel.cells at hp
  simp at hp
  rcases hp with rfl | rfl <;> rfl

theorem own_someQ {w : World} {base n size : Nat} {e : TypeId} {v : Value} {xs : List Value} (h : w.ownsRow base e size v n xs) (hn : 0 < n) : ∃ g c, v = .slice (some ⟨g, 0, none⟩) n c ∧ base ≤ g := by
  rcases h.2 with ⟨rfl, rfl⟩ | ⟨g, c, cur, rfl, hb, _⟩
  · omega
  · exact ⟨g, c, rfl, hb⟩

set_option maxHeartbeats 1000000 in
theorem cloneQ (b n c : Nat) (ps : List Parcel) (w : World) (HR : ReadsQ w b n ps) (hn : n ≤ 1000000) (h1 : 1 ≤ n) :
    Calls Try.prog 98 #[.slice (some ⟨b, 0, none⟩) n c] w fun e w' => ∃ g c', e = .returned (.slice (some ⟨g, 0, none⟩) n c') ∧ RowQ w' w.heap.size g n c' ps ∧ Below w.heap.size w w' := by
  have HRR := Lib.hid HR
  have hbl : b < w.heap.size := by
    have := HR.1
    cases ps with
    | nil => simp at this; omega
    | cons p t => exact World.block_lt_of_cell? w _ (HR.2 0 (.int .i64 p.sum) rfl)
  clear HR
  obtain ⟨i0, hi, hz0, hz1, hz2⟩ := info_parts info_parcel
  have hnil : ∀ W, (binOp .eql 93 (.slice (some ⟨b, 0, none⟩) n c) (.slice none 0 0)).run Try.prog W = .ok (.bool false) W := fun W => Lib.run_eql_slice_nil W 93 96 (some ⟨b, 0, none⟩) n c 0 0 Try.underlying93
  have HR1 := Lib.hid (HRR.out.mods (T := []) ((Mods.refl [] w).alloc (.cells #[] 96)) (by simp))
  have HO0 := Lib.hid (show (w.alloc (.cells #[] 96)).ownsRow w.heap.size 96 2 (.slice (some ⟨w.heap.size, 0, none⟩) 0 0) 0 [] from by
    exact World.ownsRow_lit (base := w.heap.size) (e := 96) (size := 2) w #[] 0 (Nat.le_refl _) (by simp [maxLen]) (by simp))
  go_enter Try.func98, Try.ntmps98
  go_wp2_with (at_builtin; refine wpList_append_own_at _ rfl _ _ 93 rfl w.heap.size 96 i0 (.agg #[.int .i64 0, .slice none 0 0]) 2 32 Try.underlying93 hi hz0 hz1 hz2 rfl (by decide) (.slice (some ⟨w.heap.size, 0, none⟩) 0 0) 0 [] rfl HO0.out ⟨b, 0, none⟩ n c (pcs ps) rfl (by rw [pcs_length, HRR.out.1]) (fun j u h => by rw [add_plain]; simpa using HR1.out.2 j u h) (pcs_one ps) (by unfold maxLen; omega) (by omega) (by simp) ?_)
  intro v1 w1 hown hg hnl hat
  obtain ⟨g, c1, rfl, hgb⟩ := own_someQ hown (by omega)
  have HB1 := Lib.hid (show Below w.heap.size w w1 from ((Below.refl _ w).alloc (Nat.le_refl _) (.cells #[] 96)).grown hg (by simp) (fun k hk => by simp [Value.ownBlock] at hk; omega))
  have HO1 := Lib.hid (show RowQ w1 w.heap.size g n c1 ps from by simpa [RowQ] using hown)
  clear hown hg hnl hat hi hz0 hz1 hz2
  go_wp2_with fail
  go_ret
  exact ⟨g, c1, by simp, HO1.out, HB1.out⟩

set_option maxHeartbeats 1000000 in
theorem merged_any (b n c b2 m c2 : Nat) (ps qs : List Parcel) (w : World) (HR : ReadsQ w b n ps) (HS : ReadsQ w b2 m qs) (hn : n ≤ 100000) (h1 : 1 ≤ n) (hm : m ≤ 100000) (h2 : 1 ≤ m) :
    Calls Try.prog 72 #[.slice (some ⟨b, 0, none⟩) n c, .slice (some ⟨b2, 0, none⟩) m c2] w fun e w' => ∃ g c' s', e = .returned (.slice (some ⟨g, 0, none⟩) (n + m) c') ∧ RowQ w' w.heap.size g (n + m) c' s' ∧ Sorted Parcel.sum s' ∧ FEq Parcel.sum (ps ++ qs) s' ∧ Below w.heap.size w w' := by
  have HRR := Lib.hid HR; have HSS := Lib.hid HS
  clear HR HS
  obtain ⟨i0, hi, hz0, hz1, hz2⟩ := info_parts info_parcel
  go_enter Try.func72, Try.ntmps72
  go_wp2_with fail
  refine (cloneQ b n c ps w HRR.out (by omega) h1).mono ?_
  rintro e w1 ⟨g1, c1, rfl, hO1, hB1⟩
  have HO1 := Lib.hid hO1; have HB1 := Lib.hid hB1
  have HS1 := Lib.hid (show ReadsQ w1 b2 m qs from HSS.out.mods (Mods.of_below hB1 []) (by simp))
  have hz := hB1.size
  have hbl2 : b2 < w.heap.size := by
    have h := HSS.out
    cases qs with
    | nil => have := h.1; simp at this; omega
    | cons p t => exact World.block_lt_of_cell? w _ (h.2 0 (.int .i64 p.sum) rfl)
  clear hO1 hB1
  go_wp2_with (at_builtin; refine wpList_append_own_at _ rfl _ _ 93 rfl w.heap.size 96 i0 (.agg #[.int .i64 0, .slice none 0 0]) 2 32 Try.underlying93 hi hz0 hz1 hz2 rfl (by decide) (.slice (some ⟨g1, 0, none⟩) n c1) n (pcs ps) rfl HO1.out ⟨b2, 0, none⟩ m c2 (pcs qs) rfl (by rw [pcs_length, HSS.out.1]) (fun j u h => by rw [add_plain]; simpa using HS1.out.2 j u h) (pcs_one qs) (by unfold maxLen; omega) (by omega) hz ?_)
  intro v2 w2 hown hg hnl hat
  obtain ⟨g2, c2', rfl, hgb⟩ := own_someQ hown (by omega)
  have hgw := own_base HO1.out g1 rfl
  have HB2 := Lib.hid (show Below w.heap.size w w2 from HB1.out.grown hg hz (fun k hk => by simp [Value.ownBlock] at hk; omega))
  have HO2 := Lib.hid (show RowQ w2 w.heap.size g2 (n + m) c2' (ps ++ qs) from by rw [RowQ, pcs_append]; exact hown)
  clear hown hg hnl hat hi hz0 hz1 hz2
  go_wp2_with fail
  refine (sortStableQ w.heap.size g2 (n + m) c2' (ps ++ qs) w2 (by omega) HO2.out).mono ?_
  rintro e w3 ⟨rfl, ⟨s', hs1, hs2, hO3⟩, hM⟩
  have HO3 := Lib.hid hO3; have HS3 := Lib.hid (And.intro hs1 hs2)
  have HB3 := Lib.hid (Below.then_mods HB2.out HB2.out.size hM (by simp; omega))
  clear hs1 hs2 hO3 hM
  go_wp2_with fail
  go_ret
  exact ⟨g2, c2', s', rfl, HO3.out, HS3.out.1, HS3.out.2, HB3.out⟩
end Go.Proofs.Ytoanhnebalapeaa
