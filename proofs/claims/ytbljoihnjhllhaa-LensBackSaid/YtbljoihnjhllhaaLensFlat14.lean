/- What size.single and size.merged do. -/
import Derived.Test.YtbljoihnjhllhaaLensFlat10
import Derived.Test.YtbljoihnjhllhaaLensFlat13
import Derived.RangeFuncNested
import Derived.RangeFuncBound
import Derived.RangeFuncCalls
import Derived.RangeFuncLeaves
import Derived.Shelf.Abstract
import Derived.Shelf.RegionOpen
import Derived.WalkKit
import Derived.OwnWalkIn
import Derived.TacticsInMore
import Derived.LoopNIn
import Derived.LoopIn
import Derived.Stop.RegionWithIn
import Derived.Test.YtbljoihnjhllhaaLensFlat11
import Derived.OrdersIn
import Derived.TacticsIn
import Derived.OrdersHeld
import Derived.Test.YtbljoihnjhllhaaLensFlat4
namespace Go.Proofs.Ytbljoihnjhllhaa
open Go.RowKit
open Go.Proofs.YtbljoihnjhllhaaW.PrintWords
open Srt

theorem info_parcel : (Try.prog.info? 93).map (fun i => (i.zero, i.size, i.bytes)) = some (some (.agg #[.int .i64 0, .slice none 0 0]), 2, 32) := by kernel_rfl

/-- A row of parcels that is read: block b from its head. -/
def ReadsQ (w : World) (b n : Nat) (ps : List Parcel) : Prop := ps.length = n ∧ ∀ j u, (pcs ps)[j]? = some u → w.cell? ⟨b, j, none⟩ = some u
theorem RowQ.reads {w : World} {base b n cap : Nat} {xs : List Parcel} (H : RowQ w base b n cap xs) : ReadsQ w b n xs := by
  obtain ⟨cur, hb, hs, ht, hc⟩ := H.blk
  refine ⟨H.length, fun j u h => ?_⟩
  rw [cell_blk hb]
  have hj : j < (pcs xs).length := (List.getElem?_eq_some_iff.1 h).1
  rw [pcs_length, H.length] at hj
  rw [← ht, List.getElem?_take_of_lt hj] at h
  simpa using h
theorem ReadsQ.mods {T : List Nat} {w w' : World} {b n : Nat} {ps : List Parcel} (h : ReadsQ w b n ps) (hm : Mods T w w') (hb : b ∉ T) : ReadsQ w' b n ps :=
  ⟨h.1, fun j u hj => (World.cell?_of_block (w := w) (hm.block b (World.block_lt_of_cell? w _ (h.2 j u hj)) hb)).trans (h.2 j u hj)⟩
theorem pcs_append (xs ys : List Parcel) : pcs (xs ++ ys) = pcs xs ++ pcs ys := by simp [pcs]
theorem pcs_one (ps : List Parcel) : ∀ u ∈ pcs ps, u.oneCell' = true := by
  intro u hu
  unfold pcs at hu
  obtain ⟨p, _, hp⟩ := List.mem_flatMap.1 hu
  unfold Parcel.cells at hp
  simp at hp
  rcases hp with rfl | rfl <;> rfl

theorem own_someQ {w : World} {base n size : Nat} {e : TypeId} {v : Value} {xs : List Value} (h : w.ownsRow base e size v n xs) (hn : 0 < n) : ∃ g c, v = .slice (some ⟨g, 0, none⟩) n c ∧ base ≤ g := by
  rcases h.2 with ⟨rfl, rfl⟩ | ⟨g, c, cur, rfl, hb, _⟩
  · omega
  · exact ⟨g, c, rfl, hb⟩

set_option maxHeartbeats 1000000 in
theorem cloneQ (b n c : Nat) (ps : List Parcel) (w : World) (HR : ReadsQ w b n ps) (hn : n ≤ 1000000) (h1 : 1 ≤ n) :
    Calls Try.prog 63 #[.slice (some ⟨b, 0, none⟩) n c] w fun e w' => ∃ g c', e = .returned (.slice (some ⟨g, 0, none⟩) n c') ∧ RowQ w' w.heap.size g n c' ps ∧ Below w.heap.size w w' := by
  have HRR := Lib.hid HR
  have hbl : b < w.heap.size := by
    have := HR.1
    cases ps with
    | nil => simp at this; omega
    | cons p t => exact World.block_lt_of_cell? w _ (HR.2 0 (.int .i64 p.sum) rfl)
  clear HR
  obtain ⟨i0, hi, hz0, hz1, hz2⟩ := info_parts info_parcel
  have hnil : ∀ W, (binOp .eql 90 (.slice (some ⟨b, 0, none⟩) n c) (.slice none 0 0)).run Try.prog W = .ok (.bool false) W := fun W => Lib.run_eql_slice_nil W 90 93 (some ⟨b, 0, none⟩) n c 0 0 Try.underlying90
  have HR1 := Lib.hid (HRR.out.mods (T := []) ((Mods.refl [] w).alloc (.cells #[] 93)) (by simp))
  have HO0 := Lib.hid (show (w.alloc (.cells #[] 93)).ownsRow w.heap.size 93 2 (.slice (some ⟨w.heap.size, 0, none⟩) 0 0) 0 [] from by
    exact World.ownsRow_lit (base := w.heap.size) (e := 93) (size := 2) w #[] 0 (Nat.le_refl _) (by simp [maxLen]) (by simp))
  go_enter Try.func63, Try.ntmps63
  go_wp2_with (at_builtin; refine wpList_append_own_at _ rfl _ _ 90 rfl w.heap.size 93 i0 (.agg #[.int .i64 0, .slice none 0 0]) 2 32 Try.underlying90 hi hz0 hz1 hz2 rfl (by decide) (.slice (some ⟨w.heap.size, 0, none⟩) 0 0) 0 [] rfl HO0.out ⟨b, 0, none⟩ n c (pcs ps) rfl (by rw [pcs_length, HRR.out.1]) (fun j u h => by rw [add_plain]; simpa using HR1.out.2 j u h) (pcs_one ps) (by unfold maxLen; omega) (by omega) (by simp) ?_)
  intro v1 w1 hown hg hnl hat
  obtain ⟨g, c1, rfl, hgb⟩ := own_someQ hown (by omega)
  have HB1 := Lib.hid (show Below w.heap.size w w1 from ((Below.refl _ w).alloc (Nat.le_refl _) (.cells #[] 93)).grown hg (by simp) (fun k hk => by simp [Value.ownBlock] at hk; omega))
  have HO1 := Lib.hid (show RowQ w1 w.heap.size g n c1 ps from by simpa [RowQ] using hown)
  clear hown hg hnl hat hi hz0 hz1 hz2
  go_wp2_with fail
  go_ret
  exact ⟨g, c1, by simp, HO1.out, HB1.out⟩

set_option maxHeartbeats 1000000 in
theorem merged_any (b n c b2 m c2 : Nat) (ps qs : List Parcel) (w : World) (HR : ReadsQ w b n ps) (HS : ReadsQ w b2 m qs) (hn : n ≤ 100000) (h1 : 1 ≤ n) (hm : m ≤ 100000) (h2 : 1 ≤ m) :
    Calls Try.prog 51 #[.slice (some ⟨b, 0, none⟩) n c, .slice (some ⟨b2, 0, none⟩) m c2] w fun e w' => ∃ g c' s', e = .returned (.slice (some ⟨g, 0, none⟩) (n + m) c') ∧ RowQ w' w.heap.size g (n + m) c' s' ∧ Sorted Parcel.sum s' ∧ FEq Parcel.sum (ps ++ qs) s' ∧ Below w.heap.size w w' := by
  have HRR := Lib.hid HR; have HSS := Lib.hid HS
  clear HR HS
  obtain ⟨i0, hi, hz0, hz1, hz2⟩ := info_parts info_parcel
  go_enter Try.func51, Try.ntmps51
  go_wp2_with fail
  refine (cloneQ b n c ps w HRR.out (by omega) h1).mono ?_
  rintro e w1 ⟨g1, c1, rfl, hO1, hB1⟩
  have HO1 := Lib.hid hO1; have HB1 := Lib.hid hB1
  have HS1 := Lib.hid (show ReadsQ w1 b2 m qs from HSS.out.mods (Mods.of_below hB1 []) (by simp))
  have hz := hB1.size
  have hbl2 : b2 < w.heap.size := by
    have h := HSS.out
    cases qs with
    | nil => have := h.1; simp at this; omega
    | cons p t => exact World.block_lt_of_cell? w _ (h.2 0 (.int .i64 p.sum) rfl)
  clear hO1 hB1
  go_wp2_with (at_builtin; refine wpList_append_own_at _ rfl _ _ 90 rfl w.heap.size 93 i0 (.agg #[.int .i64 0, .slice none 0 0]) 2 32 Try.underlying90 hi hz0 hz1 hz2 rfl (by decide) (.slice (some ⟨g1, 0, none⟩) n c1) n (pcs ps) rfl HO1.out ⟨b2, 0, none⟩ m c2 (pcs qs) rfl (by rw [pcs_length, HSS.out.1]) (fun j u h => by rw [add_plain]; simpa using HS1.out.2 j u h) (pcs_one qs) (by unfold maxLen; omega) (by omega) hz ?_)
  intro v2 w2 hown hg hnl hat
  obtain ⟨g2, c2', rfl, hgb⟩ := own_someQ hown (by omega)
  have hgw := own_base HO1.out g1 rfl
  have HB2 := Lib.hid (show Below w.heap.size w w2 from HB1.out.grown hg hz (fun k hk => by simp [Value.ownBlock] at hk; omega))
  have HO2 := Lib.hid (show RowQ w2 w.heap.size g2 (n + m) c2' (ps ++ qs) from by rw [RowQ, pcs_append]; exact hown)
  clear hown hg hnl hat hi hz0 hz1 hz2
  go_wp2_with fail
  refine (sortStableQ w.heap.size g2 (n + m) c2' (ps ++ qs) w2 (by omega) HO2.out).mono ?_
  rintro e w3 ⟨rfl, ⟨s', hs1, hs2, hO3⟩, hM⟩
  have HO3 := Lib.hid hO3; have HS3 := Lib.hid (And.intro hs1 hs2)
  have HB3 := Lib.hid (Below.then_mods HB2.out HB2.out.size hM (by simp; omega))
  clear hs1 hs2 hO3 hM
  go_wp2_with fail
  go_ret
  exact ⟨g2, c2', s', rfl, HO3.out, HS3.out.1, HS3.out.2, HB3.out⟩
end Go.Proofs.Ytbljoihnjhllhaa

/- Parcels and what they stand for; what size.single does. -/
namespace Go.Proofs.Ytbljoihnjhllhaa
open Go.RowKit
open Go.Proofs.YtbljoihnjhllhaaW.PrintWords
open Srt Sz

/-- A parcel's symbols are xs; they lie in a block of integers from lo on. -/
def SymOf (w : World) (lo : Nat) (p : Parcel) (xs : List Nat) : Prop :=
  p.n = xs.length ∧ ∃ ad cs, p.A = some ad ∧ lo ≤ ad.block ∧ w.heap[ad.block]? = some (.cells cs 3 (0, 0)) ∧ ∀ (j x : Nat), xs[j]? = some x → w.cell? (ad.add j) = some (.int .i64 (x : Int))
theorem SymOf.unique {w : World} {lo : Nat} {p : Parcel} {xs ys : List Nat} (h : SymOf w lo p xs) (k : SymOf w lo p ys) : xs = ys := by
  obtain ⟨h1, ad, _, ha, _, _, hx⟩ := h
  obtain ⟨k1, ad', _, ka, _, _, kx⟩ := k
  rw [ha] at ka
  cases ka
  apply List.ext_getElem?
  intro j
  by_cases hj : j < xs.length
  · have e1 := hx j _ (List.getElem?_eq_getElem hj)
    have e2 := kx j _ (List.getElem?_eq_getElem (by omega))
    rw [e1] at e2
    have e3 : ((xs[j] : Nat) : Int) = ((ys[j]'(by omega) : Nat) : Int) := by
      injection e2 with e2; injection e2
    rw [List.getElem?_eq_getElem hj, List.getElem?_eq_getElem (by omega)]
    congr 1; omega
  · rw [List.getElem?_eq_none (by omega), List.getElem?_eq_none (by omega)]
/-- What may be turned without touching symbols: what lies below, rows of parcels, and what is new. -/
def Safe (w : World) (lo t : Nat) : Prop := t < lo ∨ (∃ cs, w.heap[t]? = some (.cells cs 93 (0, 0))) ∨ w.heap.size ≤ t
theorem SymOf.mods {T : List Nat} {w w' : World} {lo : Nat} {p : Parcel} {xs : List Nat} (h : SymOf w lo p xs) (hm : Mods T w w') (hT : ∀ t ∈ T, Safe w lo t) : SymOf w' lo p xs := by
  obtain ⟨h1, ad, cs, ha, hlo, hb, hx⟩ := h
  have hn : ad.block ∉ T := fun ht => by
    rcases hT _ ht with h2 | ⟨cs', h2⟩ | h2
    · omega
    · rw [hb] at h2; injection h2 with h2; injection h2 with _ h3 _; revert h3; decide
    · have := blk_lt hb; omega
  have hb' := hm.blk hb hn
  refine ⟨h1, ad, cs, ha, hlo, hb', fun j x hj => ?_⟩
  have hbl : (ad.add j).block = ad.block := by unfold Addr.add; split <;> rfl
  exact (World.cell?_of_block (w := w) (by rw [hbl]; exact hm.block _ (blk_lt hb) hn)).trans (hx j x hj)
theorem SymOf.lower {w : World} {lo lo' : Nat} {p : Parcel} {xs : List Nat} (h : SymOf w lo p xs) (hl : lo' ≤ lo) : SymOf w lo' p xs := by
  obtain ⟨h1, ad, cs, ha, hlo, r⟩ := h
  exact ⟨h1, ad, cs, ha, Nat.le_trans hl hlo, r⟩
def Match (w : World) (lo : Nat) (ps : List Parcel) (qs : List Pk) : Prop := ps.length = qs.length ∧ ∀ (i : Nat) (p : Parcel) (q : Pk), ps[i]? = some p → qs[i]? = some q → p.sum = q.sum ∧ SymOf w lo p q.syms
theorem Match.nil (w : World) (lo : Nat) : Match w lo [] [] := ⟨rfl, fun i p q h => by simp at h⟩
theorem Match.mods {T : List Nat} {w w' : World} {lo : Nat} {ps : List Parcel} {qs : List Pk} (h : Match w lo ps qs) (hm : Mods T w w') (hT : ∀ t ∈ T, Safe w lo t) : Match w' lo ps qs :=
  ⟨h.1, fun i p q hp hq => ⟨(h.2 i p q hp hq).1, (h.2 i p q hp hq).2.mods hm hT⟩⟩
theorem Match.lower {w : World} {lo lo' : Nat} {ps : List Parcel} {qs : List Pk} (h : Match w lo ps qs) (hl : lo' ≤ lo) : Match w lo' ps qs := ⟨h.1, fun i p q hp hq => ⟨(h.2 i p q hp hq).1, (h.2 i p q hp hq).2.lower hl⟩⟩
theorem Match.app {w : World} {lo : Nat} {ps ps' : List Parcel} {qs qs' : List Pk} (h : Match w lo ps qs) (k : Match w lo ps' qs') : Match w lo (ps ++ ps') (qs ++ qs') := by
  refine ⟨by simp [h.1, k.1], fun i p q hp hq => ?_⟩
  by_cases hi : i < ps.length
  · rw [List.getElem?_append_left hi] at hp
    rw [List.getElem?_append_left (by rw [← h.1]; exact hi)] at hq
    exact h.2 i p q hp hq
  · rw [List.getElem?_append_right (by omega)] at hp
    rw [List.getElem?_append_right (by rw [← h.1]; omega), ← h.1] at hq
    exact k.2 _ p q hp hq
theorem Match.one {w : World} {lo : Nat} {p : Parcel} {q : Pk} (h1 : p.sum = q.sum) (h2 : SymOf w lo p q.syms) : Match w lo [p] [q] := by
  refine ⟨rfl, fun i p' q' hp hq => ?_⟩
  cases i with
  | zero => simp at hp hq; subst hp hq; exact ⟨h1, h2⟩
  | succ i => simp at hp
open Classical in
noncomputable def toPk (w : World) (lo : Nat) (p : Parcel) : Pk := if h : ∃ xs, SymOf w lo p xs then ⟨p.sum, h.choose⟩ else ⟨p.sum, []⟩
theorem toPk_sum (w : World) (lo : Nat) (p : Parcel) : (toPk w lo p).sum = p.sum := by unfold toPk; split <;> rfl
theorem toPk_eq {w : World} {lo : Nat} {p : Parcel} {q : Pk} (h1 : p.sum = q.sum) (h : SymOf w lo p q.syms) : toPk w lo p = q := by
  have hex : ∃ xs, SymOf w lo p xs := ⟨_, h⟩
  unfold toPk
  rw [dif_pos hex]
  have := hex.choose_spec.unique h
  rw [this, h1]
theorem Match.eq {w : World} {lo : Nat} {ps : List Parcel} {qs : List Pk} (h : Match w lo ps qs) : qs = ps.map (toPk w lo) := by
  apply List.ext_getElem?
  intro i
  rw [List.getElem?_map]
  by_cases hi : i < ps.length
  · have hq : i < qs.length := by rw [← h.1]; exact hi
    obtain ⟨h1, h2⟩ := h.2 i _ _ (List.getElem?_eq_getElem hi) (List.getElem?_eq_getElem hq)
    rw [List.getElem?_eq_getElem hi, List.getElem?_eq_getElem hq]
    simp only [Option.map_some]
    rw [toPk_eq h1 h2]
  · rw [List.getElem?_eq_none (by rw [← h.1]; omega), List.getElem?_eq_none (by omega)]; rfl
/-- What a stable sort of parcels makes of what they stand for. -/
theorem Match.sorted {w : World} {lo : Nat} {ps s' : List Parcel} {qs : List Pk} (h : Match w lo ps qs) (hs : Sorted Parcel.sum s') (hf : FEq Parcel.sum ps s') : ∃ qs', Match w lo s' qs' ∧ Up qs' ∧ FEq Pk.sum qs qs' := by
  refine ⟨s'.map (toPk w lo), ⟨by simp, fun i p q hp hq => ?_⟩, ?_, ?_⟩
  · rw [List.getElem?_map, hp] at hq
    simp at hq
    subst hq
    have hm : p ∈ ps := (hf.mem p).2 (List.mem_of_getElem? hp)
    obtain ⟨j, hj⟩ := List.getElem?_of_mem hm
    have hjq : j < qs.length := by rw [← h.1]; exact (List.getElem?_eq_some_iff.1 hj).1
    obtain ⟨h1, h2⟩ := h.2 j p _ hj (List.getElem?_eq_getElem hjq)
    rw [toPk_eq h1 h2]
    exact ⟨h1, h2⟩
  · refine List.pairwise_map.2 (hs.imp fun {a b} hab => ?_)
    rw [toPk_sum, toPk_sum]; exact hab
  · rw [h.eq]
    intro k
    have e : ∀ l : List Parcel, (l.map (toPk w lo)).filter (fun x => x.sum == k) = (l.filter (fun x => x.sum == k)).map (toPk w lo) := fun l => by
      rw [List.filter_map]
      congr 1
      apply List.filter_congr
      intro x _
      show ((toPk w lo x).sum == k) = _
      rw [toPk_sum]
    rw [e, e, hf k]

/-- The symbols that come, among the first k. -/
def comeUp (cs : List Int) (k : Nat) : List Nat := (List.range k).filter (fun s => decide (0 < ln cs s))
theorem comeUp_succ (cs : List Int) (k : Nat) : comeUp cs (k + 1) = comeUp cs k ++ (if 0 < ln cs k then [k] else []) := by
  unfold comeUp
  rw [List.range_succ, List.filter_append]
  by_cases h : 0 < ln cs k <;> simp [h]
theorem comeUp_len (cs : List Int) (k : Nat) : (comeUp cs k).length = mnUp cs k := by unfold comeUp mnUp; rw [List.countP_eq_length_filter]
/-- What single answers: parcels that stand for the coins, in order. -/
def SinglePost (cs : List Int) (w : World) (e : Ending) (w' : World) : Prop :=
  Below w.heap.size w w' ∧ ((comeUp cs cs.length = [] ∧ e = .returned (.slice none 0 0)) ∨ ∃ g c ps qs, e = .returned (.slice (some ⟨g, 0, none⟩) (many cs) c) ∧ RowQ w' w.heap.size g (many cs) c ps ∧ Match w' w.heap.size ps qs ∧ Up qs ∧ FEq Pk.sum ((comeUp cs cs.length).map (coin (ln cs))) qs)

set_option maxHeartbeats 400000 in
theorem insertionNilQ (w : World) :
    Calls Try.prog 74 #[.slice none 0 0, .int .i64 0, .int .i64 0, lessV] w fun e w' => e = .returned (.tuple #[]) ∧ w = w' := by
  go_enter Try.func74, Try.ntmps74
  go_wp2_with fail
  go_loop [8, 9] (fun x y => x = .int .i64 1) (fun _ _ => 0)
  case atStart => exact rfl
  case round =>
    obtain rfl := hrel
    go_wp2_with fail
    go_end0
    exact ⟨rfl, rfl⟩
set_option maxHeartbeats 400000 in
theorem stableNilQ (w : World) :
    Calls Try.prog 69 #[.slice none 0 0, .int .i64 0, lessV] w fun e w' => e = .returned (.tuple #[]) ∧ w = w' := by
  go_enter Try.func69, Try.ntmps69
  go_wp2_with fail
  go_loop [7, 8] (fun x y => x = .int .i64 0 ∧ y = .int .i64 20) (fun _ _ => 0)
  case atStart => exact ⟨rfl, rfl⟩
  case round =>
    obtain ⟨rfl, rfl⟩ := hrel
    go_wp2_with fail
    refine (insertionNilQ w).mono ?_
    rintro e w' ⟨rfl, rfl⟩
    go_wp2_with fail
    go_loop [6, 7, 8, 9] (fun x y z v => x = .int .i64 20) (fun _ _ _ _ => 0)
    case atStart => exact rfl
    case round =>
      obtain rfl := hrel
      go_wp2_with fail
      go_end0
      exact ⟨rfl, rfl⟩
set_option maxHeartbeats 400000 in
theorem sortStableNilQ (w : World) :
    Calls Try.prog 60 #[.slice none 0 0, lessV] w fun e w' => e = .returned (.tuple #[]) ∧ w = w' := by
  go_enter Try.func60, Try.ntmps60
  go_wp2_with fail
  refine (stableNilQ w).mono ?_
  rintro e w' ⟨rfl, rfl⟩
  go_wp2_with fail
  go_end0
  exact ⟨rfl, rfl⟩

theorem safe_row {w : World} {base n : Nat} {v : Value} {xs : List Value} (lo : Nat) (h : w.ownsRow base 93 2 v n xs) : ∀ t ∈ v.ownBlock.toList, Safe w lo t := by
  intro t ht
  rcases h.2 with ⟨rfl, rfl⟩ | ⟨g, c, cur, rfl, hb, hh, _⟩
  · simp [Value.ownBlock] at ht
  · simp [Value.ownBlock] at ht
    subst ht
    exact .inr (.inl ⟨cur, hh⟩)

set_option maxRecDepth 100000 in
set_option maxHeartbeats 2000000 in
theorem single_any (A : Option Addr) (n c : Nat) (cs : List Int) (w : World) (HR : ReadsInt w .i64 A n cs) (hn : n ≤ 4096) :
    Calls Try.prog 49 #[.slice A n c] w (SinglePost cs w) := by
  have HRR := Lib.hid HR; have HL := Lib.hid HR.1
  clear HR
  go_enter Try.func49, Try.ntmps49
  go_wp2_with fail
  go_loopw [3, 4, 5, 8] (fun v s x i wr => ∃ (k : Nat) (ps : List Parcel) (tv : Value), tv = v ∧ k ≤ n ∧ i = .int .i64 k ∧ Hid (ps.length = (comeUp cs k).length) ∧ Hid (wr.ownsRow w.heap.size 93 2 tv ps.length (pcs ps)) ∧ Hid (Match wr w.heap.size ps ((comeUp cs k).map (coin (ln cs)))) ∧ Hid (Below w.heap.size w wr)) (fun _ _ _ i _ => n - (intOf i).toNat)
  case atStart => exact ⟨0, [], _, rfl, Nat.zero_le _, rfl, rfl, own_nil _ _ _ _, Match.nil _ _, Below.refl _ _⟩
  case round =>
    obtain ⟨k, ps, tv, htv, hk, rfl, HPL, HO, HM, HB⟩ := hrel
    subst htv
    have hple : ps.length ≤ k := by rw [HPL.out, comeUp_len]; exact mnUp_le cs k
    by_cases hlt : k < n
    · obtain ⟨ad, hA, hcell0⟩ := ReadsInt.at_ HRR.out (k : Int) (by omega) (by omega)
      rw [Int.toNat_natCast, rd_lnS] at hcell0
      have hcell := pw_cell_below HB.out hcell0
      subst hA
      clear hcell0
      have HN := Lib.hid (comeUp_succ cs k)
      have hz := HB.out.size
      by_cases hp : 0 < ln cs k
      · have HN2 := Lib.hid (show comeUp cs (k + 1) = comeUp cs k ++ [k] from by rw [HN.out, if_pos hp])
        have hx := Lib.hid (show ln cs k = ln cs k from rfl)
        generalize hq : ln cs k = q at *
        have HQ := Lib.hid hq
        clear hq
        have HO1 := Lib.hid (show (wr.alloc (.cells #[.int .i64 (k : Int)] 3)).ownsRow w.heap.size 93 2 tv ps.length (pcs ps) from World.ownsRow.alloc HO.out _)
        go_wp2_with (at_builtin; refine print_append_cells w.heap.size rfl _ _ 90 93 (.agg #[.int .i64 0, .slice none 0 0]) 2 32 rfl Try.underlying90 info_parcel rfl (by decide) (by decide) tv ps.length (pcs ps) [.int .i64 q, .slice (some ⟨wr.heap.size, 0, none⟩) 1 1] rfl (by rw [World.size_alloc]; rfl) rfl (by simp; exact ⟨rfl, rfl⟩) HO1.out (HB.out.alloc hz _) (by simp; omega) (by omega) ?_)
        intro v1 w1 hown hB1 hg hat
        obtain ⟨g, c1, rfl, hgb⟩ := own_someQ hown (by omega)
        have hm0 : Mods [] wr (wr.alloc (.cells #[.int .i64 (k : Int)] 3)) := (Mods.refl _ _).alloc _
        have hms : Mods tv.ownBlock.toList (wr.alloc (.cells #[.int .i64 (k : Int)] 3)) w1 := Mods.grown (Mods.refl _ _) hg (fun j hj => .inl (by simpa using hj))
        have hsym : SymOf (wr.alloc (.cells #[.int .i64 (k : Int)] 3)) w.heap.size ⟨q, some ⟨wr.heap.size, 0, none⟩, 1, 1⟩ [k] := by
          refine ⟨rfl, ⟨wr.heap.size, 0, none⟩, _, rfl, hz, blk_alloc _, fun j x hj => ?_⟩
          cases j with
          | zero => simp at hj; subst hj; rw [add_plain, cell_blk (blk_alloc _)]; rfl
          | succ j => simp at hj
        have hM1 : Match w1 w.heap.size (ps ++ [⟨q, some ⟨wr.heap.size, 0, none⟩, 1, 1⟩]) ((comeUp cs (k + 1)).map (coin (ln cs))) := by
          rw [HN2.out, List.map_append]
          exact ((HM.out.mods hm0 (by simp)).app (Match.one (by show q = ln cs k; rw [HQ.out]) hsym)).mods hms (safe_row _ HO1.out)
        have HM1 := Lib.hid hM1; have HB1 := Lib.hid hB1
        have HO2 := Lib.hid (show w1.ownsRow w.heap.size 93 2 (.slice (some ⟨g, 0, none⟩) (ps.length + 1) c1) (ps ++ [(⟨q, some ⟨wr.heap.size, 0, none⟩, 1, 1⟩ : Parcel)]).length (pcs (ps ++ [⟨q, some ⟨wr.heap.size, 0, none⟩, 1, 1⟩])) from by
          rw [pcs_append, List.length_append]; exact hown)
        clear hown hB1 hg hat hm0 hms hsym hM1
        go_wp2_with fail
        go_roundw
        case rel => exact ⟨k + 1, _, _, rfl, by omega, by go_num, by rw [HN2.out, List.length_append, List.length_append, HPL.out]; rfl, HO2.out, HM1.out, HB1.out⟩
        case measure => simp [intOf]; omega
      · have HN2 := Lib.hid (show comeUp cs (k + 1) = comeUp cs k from by rw [HN.out, if_neg hp, List.append_nil])
        go_wp2_with fail
        go_roundw
        case rel => exact ⟨k + 1, ps, tv, rfl, by omega, by go_num, by rw [HN2.out]; exact HPL.out, HO.out, by show Match _ _ _ _; rw [HN2.out]; exact HM.out, HB.out⟩
        case measure => simp [intOf]; omega
    · have hkn : k = cs.length := by have := HL.out; omega
      subst hkn
      have hml : Hid (ps.length = many cs) := Lib.hid (by rw [HPL.out, comeUp_len]; rfl)
      have hO := HO.out
      have hall := hO.2
      rcases hall with ⟨rfl, he⟩ | ⟨g, c1, cur, rfl, hgb, _⟩
      · have HC0 := Lib.hid (show comeUp cs cs.length = [] from List.eq_nil_of_length_eq_zero (by rw [← HPL.out]; exact he))
        clear he hO
        go_wp2_with fail
        refine (sortStableNilQ wr).mono ?_
        rintro e w' ⟨rfl, rfl⟩
        go_wp2_with fail
        go_ret
        exact ⟨HB.out, .inl ⟨HC0.out, rfl⟩⟩
      · have HRQ := Lib.hid (show RowQ wr w.heap.size g ps.length c1 ps from hO)
        clear hO
        go_wp2_with fail
        refine (sortStableQ w.heap.size g ps.length c1 ps wr (by omega) HRQ.out).mono ?_
        rintro e w2 ⟨rfl, ⟨s', hs1, hs2, hO2⟩, hM2⟩
        obtain ⟨qs', hq1, hq2, hq3⟩ := HM.out.sorted hs1 hs2
        have hsafe := safe_row w.heap.size HO.out
        have hMM := hq1.mods hM2 (by simpa [Value.ownBlock] using hsafe)
        have HB2 := Lib.hid (Below.then_mods HB.out HB.out.size hM2 (by simp; omega))
        have HFIN := Lib.hid (show ∀ e, e = Ending.returned (.slice (some ⟨g, 0, none⟩) ps.length c1) → SinglePost cs w e w2 from fun e he => ⟨HB2.out, .inr ⟨g, c1, s', qs', by rw [he, hml.out], by rw [← hml.out]; exact hO2, hMM, hq2, hq3⟩⟩)
        clear hs1 hs2 hO2 hM2 hq1 hq2 hq3 hMM hsafe
        go_wp2_with fail
        go_ret
        exact HFIN.out _ rfl
end Go.Proofs.Ytbljoihnjhllhaa

/- What size.pairs hands out: the parcels of a list, two by two. -/
namespace Go.Proofs.Ytbljoihnjhllhaa
open Go.RowKit Go.Shelf
attribute [local go_sem] Oper.semAt_some

/-- Two by two. -/
def pr : List Parcel → List (Parcel × Parcel)
  | a :: b :: t => (a, b) :: pr t
  | _ => []
theorem pr_length : ∀ l : List Parcel, (pr l).length = l.length / 2
  | [] => rfl
  | [_] => by simp [pr]
  | a :: b :: t => by simp [pr, pr_length t]; omega
theorem pr_get : ∀ (l : List Parcel) (k : Nat) (_ : k < (pr l).length), ∃ a b, l[2 * k]? = some a ∧ l[2 * k + 1]? = some b ∧ (pr l)[k]? = some (a, b)
  | [], k, h => by simp [pr] at h
  | [_], k, h => by simp [pr] at h
  | a :: b :: t, 0, h => ⟨a, b, rfl, rfl, rfl⟩
  | a :: b :: t, k + 1, h => by
    obtain ⟨x, y, h1, h2, h3⟩ := pr_get t k (by simpa [pr] using h)
    exact ⟨x, y, by rw [show 2 * (k + 1) = 2 * k + 1 + 1 from by omega]; simpa using h1, by rw [show 2 * (k + 1) + 1 = (2 * k + 1) + 1 + 1 from by omega]; simpa using h2, by simpa [pr] using h3⟩
def encP (x : Parcel × Parcel) : Array Value := #[.agg #[.int .i64 x.1.sum, .slice x.1.A x.1.n x.1.c], .agg #[.int .i64 x.2.sum, .slice x.2.A x.2.n x.2.c]]

/-- A pair that is handed out: one of the list's. -/
abbrev PP (ps : List Parcel) : Type := { x : Parcel × Parcel // x ∈ pr ps }
def encPP {ps : List Parcel} (x : PP ps) : Array Value := encP x.1
def allP (ps : List Parcel) : List (PP ps) := (pr ps).attach
theorem allP_length (ps : List Parcel) : (allP ps).length = ps.length / 2 := by unfold allP; rw [List.length_attach, pr_length]
theorem allP_val (ps : List Parcel) : (allP ps).map Subtype.val = pr ps := List.attach_map_subtype_val _
theorem allP_get (l : List Parcel) (k : Nat) (h : k < (allP l).length) : ∃ (a b : Parcel) (hm : (a, b) ∈ pr l), l[2 * k]? = some a ∧ l[2 * k + 1]? = some b ∧ (allP l)[k]? = some ⟨(a, b), hm⟩ := by
  obtain ⟨a, b, h1, h2, h3⟩ := pr_get l k (by rw [allP_length] at h; rw [pr_length]; exact h)
  refine ⟨a, b, List.mem_of_getElem? h3, h1, h2, ?_⟩
  have e := congrArg (fun m => m[k]?) (allP_val l)
  simp only [List.getElem?_map, h3] at e
  rw [List.getElem?_eq_getElem h] at e ⊢
  simp only [Option.map_some, Option.some.injEq] at e ⊢
  exact Subtype.ext e

/-- Two blocks lie as they lay. -/
def Keep2 (x y : Nat) (A B : World) : Prop := B.heap[x]? = A.heap[x]? ∧ B.heap[y]? = A.heap[y]?
theorem Keep2.refl (x y : Nat) (A : World) : Keep2 x y A A := ⟨rfl, rfl⟩
theorem Keep2.trans {x y : Nat} {A B C : World} (h : Keep2 x y A B) (k : Keep2 x y B C) : Keep2 x y A C := ⟨k.1.trans h.1, k.2.trans h.2⟩
theorem Keep2.cell1 {x y : Nat} {A B : World} (h : Keep2 x y A B) (i : Nat) : B.cell? ⟨x, i, none⟩ = A.cell? ⟨x, i, none⟩ := World.cell?_of_block (w := A) h.1
theorem Keep2.cell2 {x y : Nat} {A B : World} (h : Keep2 x y A B) (i : Nat) : B.cell? ⟨y, i, none⟩ = A.cell? ⟨y, i, none⟩ := World.cell?_of_block (w := A) h.2
theorem keep2_t {x y : Nat} {A B C : World} (h : Keep2 x y A B) (k : Keep2 x y B C) : Keep2 x y A C := h.trans k
theorem keep2_b {x y : Nat} {w : World} (hx : x < w.heap.size) (hy : y < w.heap.size) (W : World) (l : Nat) (o o' : Obj) (hl : w.heap.size ≤ l) (_ : W.heap[l]? = some o) (_ : o.isCells = false) (_ : o.isWalk = false) : Keep2 x y W (W.putObj l o') :=
  ⟨World.putObj_heap_other (by omega), World.putObj_heap_other (by omega)⟩

set_option maxRecDepth 100000 in
set_option maxHeartbeats 2000000 in
theorem pairs1_in (n : Nat) (hn : 1 ≤ n) (l Bs b len cap : Nat) (ps : List Parcel) (hlen : ps.length = len) (hreach : len ≤ 70368744177664) (J Jx : List (PP ps) → World → Prop) (hJd : ∀ pre W, J pre W → J pre W.drew)
    (hY : ∀ pre x W, J pre W → pre.length < len → YieldAt Fence.wide (n - 1) Try.prog l (encPP x) W fun e W' =>
      (e = .returned (.bool true) ∧ J (pre ++ [x]) W' ∧ Keep2 Bs b W W') ∨ (e = .returned (.bool false) ∧ Jx (pre ++ [x]) W'))
    (W : World) (hBs : W.cell? ⟨Bs, 0, none⟩ = some (.slice (some ⟨b, 0, none⟩) len cap)) (hc : ∀ i p, ps[i]? = some p → W.cell? ⟨b, i * 2, none⟩ = some (.int .i64 p.sum) ∧ W.cell? ⟨b, i * 2 + 1, none⟩ = some (.slice p.A p.n p.c)) (h0 : J [] W) :
    CallsIn Fence.wide n Try.prog 62 #[.func (.yield l) #[] #[], .pointer (some ⟨Bs, 0, none⟩)] W fun e W' => (∃ v, e = .returned v) ∧
      ((∃ ys, ys = allP ps ∧ J ys W') ∨ (∃ pre, (∃ k, pre = (allP ps).take k) ∧ Jx pre W')) := by
  have HC := Lib.hid hc; have HL := Lib.hid hlen; have HY := Lib.hid hY; have HJD := Lib.hid hJd
  have hro : Fence.wide.round = none := rfl
  clear hc hlen hY hJd
  refine callsIn_of_wp Try.func62 rfl trivial ?_ hro
  simp only [Try.ntmps62, List.size_toArray, List.length_cons, List.length_nil, Nat.reduceAdd, Nat.reduceSub, Array.replicate_succ, Array.replicate_zero, List.push_toArray, List.append_toArray, List.nil_append, List.cons_append]
  gi_wp2
  gi_loopw [3] (fun i wr => ∃ k : Nat, k ≤ len / 2 ∧ i = .int .i64 (2 * (k : Int)) ∧ Hid (J ((allP ps).take k) wr) ∧ Hid (Keep2 Bs b W wr)) (fun i _ => len - (intOf i).toNat)
  case atStart => exact ⟨0, Nat.zero_le _, rfl, h0, Keep2.refl _ _ _⟩
  case round =>
    obtain ⟨k, hk, rfl, HJ, HB⟩ := hrel
    have hBs' := (HB.out.cell1 0).trans hBs
    by_cases hlt : k < len / 2
    · obtain ⟨p, q, hmem, hp, hq, hpq⟩ := allP_get ps k (by rw [allP_length, HL.out]; exact hlt)
      obtain ⟨c1, c2⟩ := HC.out _ _ hp
      obtain ⟨c3, c4⟩ := HC.out _ _ hq
      have d1 := (HB.out.cell2 (2 * k * 2)).trans c1
      have d2 := (HB.out.cell2 (2 * k * 2 + 1)).trans c2
      have d3 := (HB.out.cell2 ((2 * k + 1) * 2)).trans c3
      have d4 := (HB.out.cell2 ((2 * k + 1) * 2 + 1)).trans c4
      have HPQ := Lib.hid hpq
      have hnext := Lib.hid (show (allP ps).take (k + 1) = (allP ps).take k ++ [⟨(p, q), hmem⟩] from by rw [List.take_add_one, hpq]; rfl)
      clear hp hq hpq c1 c2 c3 c4
      obtain ⟨fn, tmps, assign, body, hy, hR⟩ := HY.out ((allP ps).take k) ⟨(p, q), hmem⟩ wr.drew (HJD.out _ _ HJ.out) (by rw [List.length_take, allP_length, HL.out]; omega)
      unfold encPP encP at hy
      dsimp only at hy
      have hi1 : (0 : Int) ≤ 2 * (k : Int) := by omega
      have hi2 : 2 * (k : Int) < (len : Int) := by omega
      have hi3 : 2 * (k : Int) + 1 < (len : Int) := by omega
      have hi4 : IntKind.i64.wrap (2 * (k : Int) + 1) = 2 * (k : Int) + 1 := by rw [IntWalk.i64_in _ (by omega)]
      have hi5 : (2 * (k : Int)).toNat = 2 * k := by omega
      have hi6 : (2 * (k : Int) + 1).toNat = 2 * k + 1 := by omega
      have HR := Lib.hid (hR.mono (R' := fun e W' => ∃ bb : Bool, e = .returned (.bool bb) ∧ Hid (bb = true → J ((allP ps).take (k + 1)) W' ∧ Keep2 Bs b wr W') ∧ Hid (bb = false → Jx ((allP ps).take (k + 1)) W')) (fun e W' h => by
        rcases h with ⟨rfl, h1, h2⟩ | ⟨rfl, h1⟩
        · exact ⟨true, rfl, fun _ => ⟨by rw [hnext.out]; exact h1, h2⟩, fun h => (by cases h)⟩
        · exact ⟨false, rfl, fun h => (by cases h), fun _ => by rw [hnext.out]; exact h1⟩))
      clear hR
      gi_wp2
      gi_region_with (refine HR.out.mono ?_; rintro e W3 ⟨bb, rfl, h1, h2⟩)
      all_goals
        cases bb
        · gi_wp2
          refine bodyPost_ret (results_none rfl _ _ _) rfl ?_
          exact ⟨⟨_, rfl⟩, .inr ⟨_, ⟨k + 1, rfl⟩, h2.out (by first | rfl | trivial)⟩⟩
        · gi_wp2
          go_roundw
          case rel => exact ⟨k + 1, by omega, by go_num, (h1.out (by first | rfl | trivial)).1, HB.out.trans (h1.out (by first | rfl | trivial)).2⟩
          case measure => simp [intOf]; omega
    · have hkk : k = len / 2 := by omega
      have hge : ¬ 2 * (k : Int) + 1 < (len : Int) := by omega
      have hfin := HJ.out
      rw [hkk, List.take_of_length_le (by rw [allP_length, HL.out]; exact Nat.le_refl _)] at hfin
      have HF := Lib.hid hfin
      clear hfin
      gi_wp2
      go_end0
      first | exact ⟨⟨_, rfl⟩, .inl HF.out⟩ | exact ⟨⟨_, rfl⟩, .inl ⟨_, rfl, HF.out⟩⟩

theorem pairs_stops (n : Nat) (hn : 1 ≤ n) (Bs b len cap : Nat) (ps : List Parcel) (hlen : ps.length = len) (hreach : len ≤ 70368744177664) (w : World) (hb : b < w.heap.size) (hBn : Bs < w.heap.size)
    (hBs : w.cell? ⟨Bs, 0, none⟩ = some (.slice (some ⟨b, 0, none⟩) len cap)) (hc : ∀ i p, ps[i]? = some p → w.cell? ⟨b, i * 2, none⟩ = some (.int .i64 p.sum) ∧ w.cell? ⟨b, i * 2 + 1, none⟩ = some (.slice p.A p.n p.c)) :
    SeqStopsK Fence.wide n Try.prog 62 #[.pointer (some ⟨Bs, 0, none⟩)] encPP (Keep2 Bs b) (fun ys => ys = allP ps) (fun pre => ∃ k, pre = (allP ps).take k) len w :=
  fun l J Jx W hW hJ _ hY h0 =>
    pairs1_in n hn l Bs b len cap ps hlen hreach J Jx (fun pre W1 h => hJ pre W1 W1.drew none h ⟨rfl, rfl, rfl, Nat.le_refl _, fun _ _ _ => rfl⟩ (fun r e => by cases e)) hY W
      ((hW.cell (p := ⟨Bs, 0, none⟩) hBn).trans hBs) (fun i p h => ⟨(hW.cell (p := ⟨b, i * 2, none⟩) hb).trans (hc i p h).1, (hW.cell (p := ⟨b, i * 2 + 1, none⟩) hb).trans (hc i p h).2⟩) h0

set_option maxHeartbeats 400000 in
theorem pairs_any (A : Option Addr) (n c : Nat) (w : World) :
    Calls Try.prog 50 #[.slice A n c] w fun e w' => e = .returned (.func (.func 62) #[] #[.pointer (some ⟨w.heap.size, 0, none⟩)]) ∧ w' = w.alloc (.cells #[.slice A n c] 90) := by
  go_enter Try.func50, Try.ntmps50
  go_wp2
  go_ret
  exact ⟨rfl, rfl⟩
end Go.Proofs.Ytbljoihnjhllhaa

/- A region of the body of a range over a function, walked as everywhere: no program in sight. -/
namespace Go.Proofs.Ytbljoihnjhllhaa
open Go

theorem rowsIn_round {l n : Nat} {P : Program} {row : String} {args : Array Value} {w : World} {R : Value → World → Prop} (h : Rows P row args w R) : RowsIn (Fence.wide.inRound l) n P row args w R :=
  fun c cs _ => let ⟨v, w', r, s⟩ := h c cs; ⟨v, w', r, stepsIn_wide.2 s⟩
theorem callsIn_round {l n : Nat} {P : Program} {f : FuncId} {args : Array Value} {w : World} {R : Ending → World → Prop} (h : Calls P f args w R) : CallsIn (Fence.wide.inRound l) n P f args w R := callsIn_wide.2 h
theorem wpOpIn_of {l n : Nat} {P : Program} {ops : Array Oper} {Q : Exit → Act → World → Prop} {i : Nat} {K K' : Act → World → Prop} {a : Act} {w : World} (hnd : ∀ (i : Nat) (o : Oper), ops[i]? = some o → ∀ c, o.op ≠ .defer c) (hQ : ¬ LetsOut Q)
    (hK : ∀ a w, K a w → K' a w) (h : wpOp P ops Q i K a w) : wpOpIn (Fence.wide.inRound l) n P ops Q i K' a w := by
  unfold wpOp at h
  unfold wpOpIn
  cases ho : ops[i]? with
  | none => simp only [ho] at h ⊢; exact hK _ _ h
  | some o =>
    simp only [ho] at h ⊢
    by_cases hw : Region.wanted o (yielded ops a.tmps) = true
    · simp only [hw, if_true] at h ⊢
      rcases h with h | h
      · refine ⟨fun _ _ => trivial, ?_⟩
        show o.uponIn _ n P a K' Q ((o.semAt (some l) a.eval).run P w)
        rw [Oper.semAt_some l a.eval o (hnd i o ho)]
        unfold Oper.wp at h
        generalize (execOp a.eval o).run P w = r at h
        have hdep : (Fence.wide.inRound l).depth.isSome = true → 1 ≤ n := fun h => by simp [Fence.wide] at h
        cases r with
        | ok x w' =>
          cases x <;> simp only [Oper.upon, Oper.uponIn] at h ⊢
          all_goals first
            | exact hK _ _ h
            | exact h.elim
            | exact ⟨hdep, (callsIn_round h).mono fun e w'' he => by cases e <;> first | exact hK _ _ he | exact he⟩
            | exact ⟨hdep, (rowsIn_round h).mono fun _ _ he => hK _ _ he⟩
        | halt x w' => cases x <;> simp only [Oper.upon, Oper.uponIn] at h ⊢ <;> exact h
      · exact absurd h.2 hQ
    · simp only [hw] at h ⊢
      exact ⟨fun _ _ => trivial, hK _ _ h⟩
theorem wpAnyIn_of {l n : Nat} {P : Program} {md : Region.Mode} {ops : Array Oper} {Q : Exit → Act → World → Prop} (hnd : ∀ (i : Nat) (o : Oper), ops[i]? = some o → ∀ c, o.op ≠ .defer c) (hQ : ¬ LetsOut Q) :
    ∀ (fuel : Nat) (listed : Array Bool) (a : Act) (w : World), wpAny P md ops Q fuel listed a w → wpAnyIn (Fence.wide.inRound l) n P md ops Q fuel listed a w
  | 0, _, _, _, h => h
  | fuel + 1, _, _, _, h => ⟨h.1, fun i hi => wpOpIn_of hnd hQ (fun a w => wpAnyIn_of hnd hQ fuel _ a w) (h.2 i hi)⟩
def noDefer (ops : Array Oper) : Bool := ops.all fun o => match o.op with | .defer _ => false | _ => true
theorem noDefer_spec {ops : Array Oper} (h : noDefer ops = true) (i : Nat) (o : Oper) (ho : ops[i]? = some o) : ∀ c, o.op ≠ .defer c := by
  intro c hc
  have := Array.all_eq_true.1 h i (Array.getElem?_eq_some_iff.1 ho).1
  rw [(Array.getElem?_eq_some_iff.1 ho).2, hc] at this
  cases this
theorem wpIn_region_round {l n id : Nat} {P : Program} {ops : Array Oper} {Q : Exit → Act → World → Prop} (S : World → Prop) {a : Act} {w : World} (hm : P.follows .mixedOrders = true) (hnd : noDefer ops = true) (hQ : ¬ LetsOut Q)
    (h : wpAnyH P .any ops Q S ops.size (Array.replicate ops.size false) a w.drew) : (Code.region id ops true).wpIn (Fence.wide.inRound l) n P Q a w :=
  wpIn_region_any hm (wpAnyIn_of (noDefer_spec hnd) hQ _ _ _ _ (wpAny_of_held _ _ _ _ h))
end Go.Proofs.Ytbljoihnjhllhaa

/- A function that holds a range over a function within a loop leaves with many marks among its deferred calls. -/
namespace Go.Proofs.Ytbljoihnjhllhaa
open Go Go.RowKit

def mark (D : Nat) : Deferred := { target := .collected D, args := #[] }
/-- The marks stand for blocks that hand no call over. -/
def Marked (w : World) (lo : Nat) (Ds : List Nat) : Prop := Ds.Nodup ∧ ∀ D ∈ Ds, lo ≤ D ∧ w.heap[D]? = some (.deferred (some []))
/-- What lay lies, but for marks' blocks. -/
def Shut (lo : Nat) (w w' : World) : Prop := Below lo w w' ∧ ∀ (k : Nat) (o : Obj), w.heap[k]? = some o → o.isCells = true → w'.heap[k]? = some o
theorem Shut.refl (lo : Nat) (w : World) : Shut lo w w := ⟨Below.refl _ _, fun _ _ h _ => h⟩
theorem Shut.trans {lo : Nat} {a b c : World} (h : Shut lo a b) (k : Shut lo b c) : Shut lo a c := ⟨h.1.trans k.1, fun i o h1 h2 => k.2 i o (h.2 i o h1 h2) h2⟩
theorem Shut.put {lo D : Nat} {w : World} (hD : lo ≤ D) (h : w.heap[D]? = some (.deferred (some []))) : Shut lo w (w.putObj D (.deferred none)) :=
  ⟨(Below.refl lo w).grown (grownBy_putObj' w D (.deferred none)) (by have := (Array.getElem?_eq_some_iff.1 h).1; omega) (fun k e => by cases e; omega),
   fun k o h1 h2 => by
    have hne : k ≠ D := fun e => by subst e; rw [h] at h1; cases h1; cases h2
    exact (World.putObj_heap_other hne).trans h1⟩
theorem leaves_marks {P : Program} {F : Fence} {n : Nat} {fn : Func} {tmps : Array Value} {R : Ending → World → Prop} (lo : Nat) (v : Value) : ∀ (Ds : List Nat) (w : World), Marked w lo Ds →
    (∀ w', Shut lo w w' → (results fn tmps).run P w' = .ok v w' ∧ R (.returned v) w') → LeavesInM F n P fn tmps R (Ds.map mark) .returning w
  | [], w, _, h => ⟨v, (h w (Shut.refl _ _)).1, (h w (Shut.refl _ _)).2⟩
  | D :: Ds, w, hm, h => by
    obtain ⟨hnd, hall⟩ := hm
    obtain ⟨h1, h2⟩ := hall D (by simp)
    have hs := Shut.put h1 h2
    refine ⟨by simp, .inl ⟨D, _, rfl, run_takeDeferred h2, leaves_marks lo v Ds _ ⟨(List.nodup_cons.1 hnd).2, fun E hE => ?_⟩ (fun w' hw' => h w' (hs.trans hw'))⟩⟩
    obtain ⟨h3, h4⟩ := hall E (by simp [hE])
    exact ⟨h3, (World.putObj_heap_other (fun e => (List.nodup_cons.1 hnd).1 (by rw [← e]; exact hE))).trans h4⟩
theorem Marked.nil (w : World) (lo : Nat) : Marked w lo [] := ⟨List.nodup_nil, fun _ h => by simp at h⟩
theorem Marked.later {w w' : World} {lo : Nat} {Ds : List Nat} (h : Marked w lo Ds) (hk : ∀ (k : Nat) (o : Obj), w.heap[k]? = some o → o.isCells = false → w'.heap[k]? = some o) : Marked w' lo Ds :=
  ⟨h.1, fun D hD => ⟨(h.2 D hD).1, hk _ _ (h.2 D hD).2 rfl⟩⟩
theorem Marked.cons {w : World} {lo D : Nat} {Ds : List Nat} (h : Marked w lo Ds) (hD : lo ≤ D) (hd : w.heap[D]? = some (.deferred (some []))) (hn : D ∉ Ds) : Marked w lo (D :: Ds) :=
  ⟨List.nodup_cons.2 ⟨hn, h.1⟩, fun E hE => by rcases List.mem_cons.1 hE with rfl | hE; exact ⟨hD, hd⟩; exact h.2 E hE⟩
end Go.Proofs.Ytbljoihnjhllhaa

/- slices.Clone at []int. -/
namespace Go.Proofs.Ytbljoihnjhllhaa
open Go.RowKit
open Go.Proofs.YtbljoihnjhllhaaW.PrintWords

set_option maxHeartbeats 1000000 in
theorem cloneIb (A : Option Addr) (n c : Nat) (xs : List Int) (w : World) (HR : ReadsInt w .i64 A n xs) (hn : n ≤ 17592186044416) :
    Calls Try.prog 20 #[.slice A n c] w fun e w' => ∃ v, e = .returned v ∧ w'.ownsRow w.heap.size 3 1 v n (nums .i64 xs) ∧ Below w.heap.size w w' := by
  have HRR := Lib.hid HR
  have hbl := HR.1
  have h0 : A = none → n = 0 := fun e => by
    rcases Nat.eq_zero_or_pos n with h | h
    · exact h
    · obtain ⟨ad, e2, _⟩ := HR.2.2 h
      rw [e] at e2; cases e2
  clear HR
  cases A with
  | none =>
    have := h0 rfl
    subst this
    obtain rfl := List.length_eq_zero_iff.1 hbl
    clear h0
    have hnil : ∀ W, (binOp .eql 22 (.slice none 0 c) (.slice none 0 0)).run Try.prog W = .ok (.bool true) W := fun W => Lib.run_eql_slice_nil W 22 3 none 0 c 0 0 Try.underlying22
    go_enter Try.func20, Try.ntmps20
    go_wp2
    go_ret
    exact ⟨_, rfl, own_nil _ _ _ _, Below.refl _ _⟩
  | some ad =>
    clear h0
    have hnil : ∀ W, (binOp .eql 22 (.slice (some ad) n c) (.slice none 0 0)).run Try.prog W = .ok (.bool false) W := fun W => Lib.run_eql_slice_nil W 22 3 (some ad) n c 0 0 Try.underlying22
    go_enter Try.func20, Try.ntmps20
    go_wp2_with (at_builtin; refine print_append_row w.heap.size rfl _ _ 22 3 .i64 8 rfl Try.underlying22 info_int (by decide) _ [] xs (some ad) n c rfl rfl (by exact own_lit w w.heap.size 3 .i64 [] (Nat.le_refl _) (by decide)) (by exact HRR.out.below ((Below.refl _ w).alloc (Nat.le_refl _) _)) ((Below.refl _ w).alloc (Nat.le_refl _) _) (by simp) (by simp; omega) ?_)
    intro v1 w1 hown hB1 _ _
    obtain ⟨A1, c1, rfl, hR1⟩ := own_reads hown
    have HO := Lib.hid hown; have HB := Lib.hid hB1
    clear hown hB1 hR1
    have HL := Lib.hid hbl
    clear hbl
    go_wp2_with fail
    go_ret
    exact ⟨_, rfl, HO.out, HB.out⟩
end Go.Proofs.Ytbljoihnjhllhaa
