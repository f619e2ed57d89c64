/- Parcels and what they stand for; what size.single does. -/
import Derived.Test.YtoanhnebalapeaaSizeX
namespace Go.Proofs.Ytoanhnebalapeaa
open Go.RowKit
open Go.Proofs.YtoanhnebalapeaaW.PrintWords
open Srt Sz

/-- A parcel's symbols are xs; they lie in a block of integers from lo on. -/
def SymOf (w : World) (lo : Nat) (p : Parcel) (xs : List Nat) : Prop :=
  p.n = xs.length ∧ ∃ ad cs, p.A = some ad ∧ lo ≤ ad.block ∧ w.heap[ad.block]? = some (.cells cs 3 (0, 0)) ∧ ∀ (j x : Nat), xs[j]? = some x → w.cell? (ad.add j) = some (.int .i64 (x : Int))
theorem SymOf.unique {w : World} {lo : Nat} {p : Parcel} {xs ys : List Nat} (h : SymOf w lo p xs) (k : SymOf w lo p ys) : xs = ys := by
  obtain ⟨h1, ad, _, ha, _, _, hx⟩ := h
  obtain ⟨k1, ad', _, ka, _, _, kx⟩ := k
  rw [ha] at ka
  cases ka
  apply List.ext_getElem?
  intro j
  by_cases hj : j < xs.length
  · have e1 := hx j _ (List.getElem?_eq_getElem hj)
    have e2 := kx j _ (List.getElem?_eq_getElem (by omega))
    rw [e1] at e2
    have e3 : ((xs[j] : Nat) : Int) = ((ys[j]'(by omega) : Nat) : Int) := by
      injection e2 with e2; injection e2
    rw [List.getElem?_eq_getElem hj, List.getElem?_eq_getElem (by omega)]
    congr 1; omega
  · rw [List.getElem?_eq_none (by omega), List.getElem?_eq_none (by omega)]
/-- What may be turned without touching symbols: what lies below, rows of parcels, and what is new. -/
def Safe (w : World) (lo t : Nat) : Prop := t < lo ∨ (∃ cs, w.heap[t]? = some (.cells cs 96 (0, 0))) ∨ w.heap.size ≤ t
theorem SymOf.mods {T : List Nat} {w w' : World} {lo : Nat} {p : Parcel} {xs : List Nat} (h : SymOf w lo p xs) (hm : Mods T w w') (hT : ∀ t ∈ T, Safe w lo t) : SymOf w' lo p xs := by
  obtain ⟨h1, ad, cs, ha, hlo, hb, hx⟩ := h
  have hn : ad.block ∉ T := fun ht => by
    rcases hT _ ht with h2 | ⟨cs', h2⟩ | h2
    · omega
    · rw [hb] at h2; injection h2 with h2; injection h2 with _ h3 _; revert h3; decide
    · have := blk_lt hb; omega
  have hb' := hm.blk hb hn
  refine ⟨h1, ad, cs, ha, hlo, hb', fun j x hj => ?_⟩
  have hbl : (ad.add j).block = ad.block := by unfold Addr.add; split <;> rfl
  exact (World.cell?_of_block (w := w) (by rw [hbl]; exact hm.block _ (blk_lt hb) hn)).trans (hx j x hj)
theorem SymOf.lower {w : World} {lo lo' : Nat} {p : Parcel} {xs : List Nat} (h : SymOf w lo p xs) (hl : lo' ≤ lo) : SymOf w lo' p xs := by
  obtain ⟨h1, ad, cs, ha, hlo, r⟩ := h
  exact ⟨h1, ad, cs, ha, Nat.le_trans hl hlo, r⟩
def Match (w : World) (lo : Nat) (ps : List Parcel) (qs : List Pk) : Prop := ps.length = qs.length ∧ ∀ (i : Nat) (p : Parcel) (q : Pk), ps[i]? = some p → qs[i]? = some q → p.sum = q.sum ∧ SymOf w lo p q.syms
theorem Match.nil (w : World) (lo : Nat) : Match w lo [] [] := ⟨rfl, fun i p q h => by simp at h⟩
theorem Match.mods {T : List Nat} {w w' : World} {lo : Nat} {ps : List Parcel} {qs : List Pk} (h : Match w lo ps qs) (hm : Mods T w w') (hT : ∀ t ∈ T, Safe w lo t) : Match w' lo ps qs :=
  ⟨h.1, fun i p q hp hq => ⟨(h.2 i p q hp hq).1, (h.2 i p q hp hq).2.mods hm hT⟩⟩
theorem Match.lower {w : World} {lo lo' : Nat} {ps : List Parcel} {qs : List Pk} (h : Match w lo ps qs) (hl : lo' ≤ lo) : Match w lo' ps qs := ⟨h.1, fun i p q hp hq => ⟨(h.2 i p q hp hq).1, (h.2 i p q hp hq).2.lower hl⟩⟩
theorem Match.app {w : World} {lo : Nat} {ps ps' : List Parcel} {qs qs' : List Pk} (h : Match w lo ps qs) (k : Match w lo ps' qs') : Match w lo (ps ++ ps') (qs ++ qs') := by
  refine ⟨by simp [h.1, k.1], fun i p q hp hq => ?_⟩
  by_cases hi : i < ps.length
  · rw [List.getElem?_append_left hi] at hp
    rw [List.getElem?_append_left (by rw [← h.1]; exact hi)] at hq
    exact h.2 i p q hp hq
  · rw [List.getElem?_append_right (by omega)] at hp
    rw [List.getElem?_append_right (by rw [← h.1]; omega), ← h.1] at hq
    exact k.2 _ p q hp hq
theorem Match.one {w : World} {lo : Nat} {p : Parcel} {q : Pk} (h1 : p.sum = q.sum) (h2 : SymOf w lo p q.syms) : Match w lo [p] [q] := by
  refine ⟨rfl, fun i p' q' hp hq => ?_⟩
  cases i with
  | zero => simp at hp hq; subst hp hq; exact ⟨h1, h2⟩
  | succ i => simp at hp
open Classical in
noncomputable def toPk (w : World) (lo : Nat) (p : Parcel) : Pk := if h : ∃ xs, SymOf w lo p xs then ⟨p.sum, h.choose⟩ else ⟨p.sum, []⟩
theorem toPk_sum (w : World) (lo : Nat) (p : Parcel) : (toPk w lo p).sum = p.sum := by unfold toPk; split <;> rfl
theorem toPk_eq {w : World} {lo : Nat} {p : Parcel} {q : Pk} (h1 : p.sum = q.sum) (h : SymOf w lo p q.syms) : toPk w lo p = q := by
  have hex : ∃ xs, SymOf w lo p xs := ⟨_, h⟩
  unfold toPk
  rw [dif_pos hex]
  have := hex.choose_spec.unique h
  rw [this, h1]
theorem Match.eq {w : World} {lo : Nat} {ps : List Parcel} {qs : List Pk} (h : Match w lo ps qs) : qs = ps.map (toPk w lo) := by
  apply List.ext_getElem?
  intro i
  rw [List.getElem?_map]
  by_cases hi : i < ps.length
  · have hq : i < qs.length := by rw [← h.1]; exact hi
    obtain ⟨h1, h2⟩ := h.2 i _ _ (List.getElem?_eq_getElem hi) (List.getElem?_eq_getElem hq)
    rw [List.getElem?_eq_getElem hi, List.getElem?_eq_getElem hq]
    simp only [Option.map_some]
    rw [toPk_eq h1 h2]
  · rw [List.getElem?_eq_none (by rw [← h.1]; omega), List.getElem?_eq_none (by omega)]; rfl
/-- What a stable sort of parcels makes of what they stand for. -/
theorem Match.sorted {w : World} {lo : Nat} {ps s' : List Parcel} {qs : List Pk} (h : Match w lo ps qs) (hs : Sorted Parcel.sum s') (hf : FEq Parcel.sum ps s') : ∃ qs', Match w lo s' qs' ∧ Up qs' ∧ FEq Pk.sum qs qs' := by
  refine ⟨s'.map (toPk w lo), ⟨by simp, fun i p q hp hq => ?_⟩, ?_, ?_⟩
  · rw [List.getElem?_map, hp] at hq
    simp at hq
    subst hq
    have hm : p ∈ ps := (hf.mem p).2 (List.mem_of_getElem? hp)
    obtain ⟨j, hj⟩ := List.getElem?_of_mem hm
    have hjq : j < qs.length := by rw [← h.1]; exact (List.getElem?_eq_some_iff.1 hj).1
    obtain ⟨h1, h2⟩ := h.2 j p _ hj (List.getElem?_eq_getElem hjq)
    rw [toPk_eq h1 h2]
    exact ⟨h1, h2⟩
  · refine List.pairwise_map.2 (hs.imp fun {a b} hab => ?_)
    rw [toPk_sum, toPk_sum]; exact hab
  · rw [h.eq]
    intro k
    have e : ∀ l : List Parcel, (l.map (toPk w lo)).filter (fun x => x.sum == k) = (l.filter (fun x => x.sum == k)).map (toPk w lo) := fun l => by
      rw [List.filter_map]
      congr 1
      apply List.filter_congr
      intro x _
      show ((toPk w lo x).sum == k) = _
      rw [toPk_sum]
    rw [e, e, hf k]

/-- The symbols that come, among the first k. -/
def comeUp (cs : List Int) (k : Nat) : List Nat := (List.range k).filter (fun s => decide (0 < ln cs s))
theorem comeUp_succ (cs : List Int) (k : Nat) : comeUp cs (k + 1) = comeUp cs k ++ (if 0 < ln cs k then [k] else []) := by
  unfold comeUp
  rw [List.range_succ, List.filter_append]
  by_cases h : 0 < ln cs k <;> simp [h]
theorem comeUp_len (cs : List Int) (k : Nat) : (comeUp cs k).length = mnUp cs k := by unfold comeUp mnUp; rw [List.countP_eq_length_filter]
/-- What single answers: parcels that stand for the coins, in order. -/
def SinglePost (cs : List Int) (w : World) (e : Ending) (w' : World) : Prop :=
  Below w.heap.size w w' ∧ ((comeUp cs cs.length = [] ∧ e = .returned (.slice none 0 0)) ∨ ∃ g c ps qs, e = .returned (.slice (some ⟨g, 0, none⟩) (many cs) c) ∧ RowQ w' w.heap.size g (many cs) c ps ∧ Match w' w.heap.size ps qs ∧ Up qs ∧ FEq Pk.sum ((comeUp cs cs.length).map (coin (ln cs))) qs)

set_option maxHeartbeats 400000 in
theorem insertionNilQ (w : World) :
    Calls Try.prog 125 #[.slice none 0 0, .int .i64 0, .int .i64 0, lessV] w fun e w' => e = .returned (.tuple #[]) ∧ w = w' := by
  go_enter Try.func125, Try.ntmps125
  go_wp2_with fail
  go_loop [8, 9] (fun x y => x = .int .i64 1) (fun _ _ => 0)
  case atStart => exact rfl
  case round =>
    obtain rfl := hrel
    go_wp2_with fail
    go_end0
    exact ⟨rfl, rfl⟩
set_option maxHeartbeats 400000 in
theorem stableNilQ (w : World) :
    Calls Try.prog 107 #[.slice none 0 0, .int .i64 0, lessV] w fun e w' => e = .returned (.tuple #[]) ∧ w = w' := by
  go_enter Try.func107, Try.ntmps107
  go_wp2_with fail
  go_loop [7, 8] (fun x y => x = .int .i64 0 ∧ y = .int .i64 20) (fun _ _ => 0)
  case atStart => exact ⟨rfl, rfl⟩
  case round =>
    obtain ⟨rfl, rfl⟩ := hrel
    go_wp2_with fail
    refine (insertionNilQ w).mono ?_
    rintro e w' ⟨rfl, rfl⟩
    go_wp2_with fail
    go_loop [6, 7, 8, 9] (fun x y z v => x = .int .i64 20) (fun _ _ _ _ => 0)
    case atStart => exact rfl
    case round =>
      obtain rfl := hrel
      go_wp2_with fail
      go_end0
      exact ⟨rfl, rfl⟩
set_option maxHeartbeats 400000 in
theorem sortStableNilQ (w : World) :
    Calls Try.prog 95 #[.slice none 0 0, lessV] w fun e w' => e = .returned (.tuple #[]) ∧ w = w' := by
  go_enter Try.func95, Try.ntmps95
  go_wp2_with fail
  refine (stableNilQ w).mono ?_
  rintro e w' ⟨rfl, rfl⟩
  go_wp2_with fail
  go_end0
  exact ⟨rfl, rfl⟩

theorem safe_row {w : World} {base n : Nat} {v : Value} {xs : List Value} (lo : Nat) (h : w.ownsRow base 96 2 v n xs) : ∀ t ∈ v.ownBlock.toList, Safe w lo t := by
  intro t ht
  rcases h.2 with ⟨rfl, rfl⟩ | ⟨g, c, cur, rfl, hb, hh, _⟩
  · simp [Value.ownBlock] at ht
  · simp [Value.ownBlock] at ht
    subst ht
    exact .inr (.inl ⟨cur, hh⟩)

set_option maxRecDepth 100000 in
set_option maxHeartbeats 2000000 in
theorem single_any (A : Option Addr) (n c : Nat) (cs : List Int) (w : World) (HR : ReadsInt w .i64 A n cs) (hn : n ≤ 4096) :
    Calls Try.prog 69 #[.slice A n c] w (SinglePost cs w) := by
  have HRR := Lib.hid HR; have HL := Lib.hid HR.1
  clear HR
  go_enter Try.func69, Try.ntmps69
  go_wp2_with fail
  go_loopw [3, 4, 5, 8] (fun v s x i wr => ∃ (k : Nat) (ps : List Parcel) (tv : Value), tv = v ∧ k ≤ n ∧ i = .int .i64 k ∧ Hid (ps.length = (comeUp cs k).length) ∧ Hid (wr.ownsRow w.heap.size 96 2 tv ps.length (pcs ps)) ∧ Hid (Match wr w.heap.size ps ((comeUp cs k).map (coin (ln cs)))) ∧ Hid (Below w.heap.size w wr)) (fun _ _ _ i _ => n - (intOf i).toNat)
  case atStart => exact ⟨0, [], _, rfl, Nat.zero_le _, rfl, rfl, own_nil _ _ _ _, Match.nil _ _, Below.refl _ _⟩
  case round =>
    obtain ⟨k, ps, tv, htv, hk, rfl, HPL, HO, HM, HB⟩ := hrel
    subst htv
    have hple : ps.length ≤ k := by rw [HPL.out, comeUp_len]; exact mnUp_le cs k
    by_cases hlt : k < n
    · obtain ⟨ad, hA, hcell0⟩ := ReadsInt.at_ HRR.out (k : Int) (by omega) (by omega)
      rw [Int.toNat_natCast, rd_lnS] at hcell0
      have hcell := pw_cell_below HB.out hcell0
      subst hA
      clear hcell0
      have HN := Lib.hid (comeUp_succ cs k)
      have hz := HB.out.size
      by_cases hp : 0 < ln cs k
      · have HN2 := Lib.hid (show comeUp cs (k + 1) = comeUp cs k ++ [k] from by rw [HN.out, if_pos hp])
        have hx := Lib.hid (show ln cs k = ln cs k from rfl)
        generalize hq : ln cs k = q at *
        have HQ := Lib.hid hq
        clear hq
        have HO1 := Lib.hid (show (wr.alloc (.cells #[.int .i64 (k : Int)] 3)).ownsRow w.heap.size 96 2 tv ps.length (pcs ps) from World.ownsRow.alloc HO.out _)
        go_wp2_with (at_builtin; refine print_append_cells w.heap.size rfl _ _ 93 96 (.agg #[.int .i64 0, .slice none 0 0]) 2 32 rfl Try.underlying93 info_parcel rfl (by decide) (by decide) tv ps.length (pcs ps) [.int .i64 q, .slice (some ⟨wr.heap.size, 0, none⟩) 1 1] rfl (by rw [World.size_alloc]; rfl) rfl (by simp; exact ⟨rfl, rfl⟩) HO1.out (HB.out.alloc hz _) (by simp; omega) (by omega) ?_)
        intro v1 w1 hown hB1 hg hat
        obtain ⟨g, c1, rfl, hgb⟩ := own_someQ hown (by omega)
        have hm0 : Mods [] wr (wr.alloc (.cells #[.int .i64 (k : Int)] 3)) := (Mods.refl _ _).alloc _
        have hms : Mods tv.ownBlock.toList (wr.alloc (.cells #[.int .i64 (k : Int)] 3)) w1 := Mods.grown (Mods.refl _ _) hg (fun j hj => .inl (by simpa using hj))
        have hsym : SymOf (wr.alloc (.cells #[.int .i64 (k : Int)] 3)) w.heap.size ⟨q, some ⟨wr.heap.size, 0, none⟩, 1, 1⟩ [k] := by
          refine ⟨rfl, ⟨wr.heap.size, 0, none⟩, _, rfl, hz, blk_alloc _, fun j x hj => ?_⟩
          cases j with
          | zero => simp at hj; subst hj; rw [add_plain, cell_blk (blk_alloc _)]; rfl
          | succ j => simp at hj
        have hM1 : Match w1 w.heap.size (ps ++ [⟨q, some ⟨wr.heap.size, 0, none⟩, 1, 1⟩]) ((comeUp cs (k + 1)).map (coin (ln cs))) := by
          rw [HN2.out, List.map_append]
          exact ((HM.out.mods hm0 (by simp)).app (Match.one (by show q = ln cs k; rw [HQ.out]) hsym)).mods hms (safe_row _ HO1.out)
        have HM1 := Lib.hid hM1; have HB1 := Lib.hid hB1
        have HO2 := Lib.hid (show w1.ownsRow w.heap.size 96 2 (.slice (some ⟨g, 0, none⟩) (ps.length + 1) c1) (ps ++ [(⟨q, some ⟨wr.heap.size, 0, none⟩, 1, 1⟩ : Parcel)]).length (pcs (ps ++ [⟨q, some ⟨wr.heap.size, 0, none⟩, 1, 1⟩])) from by
          rw [pcs_append, List.length_append]; exact hown)
        clear hown hB1 hg hat hm0 hms hsym hM1
        go_wp2_with fail
        go_roundw
        case rel => exact ⟨k + 1, _, _, rfl, by omega, by go_num, by rw [HN2.out, List.length_append, List.length_append, HPL.out]; rfl, HO2.out, HM1.out, HB1.out⟩
        case measure => simp [intOf]; omega
      · have HN2 := Lib.hid (show comeUp cs (k + 1) = comeUp cs k from by rw [HN.out, if_neg hp, List.append_nil])
        go_wp2_with fail
        go_roundw
        case rel => exact ⟨k + 1, ps, tv, rfl, by omega, by go_num, by rw [HN2.out]; exact HPL.out, HO.out, by show Match _ _ _ _; rw [HN2.out]; exact HM.out, HB.out⟩
        case measure => simp [intOf]; omega
    · have hkn : k = cs.length := by have := HL.out; omega
      subst hkn
      have hml : Hid (ps.length = many cs) := Lib.hid (by rw [HPL.out, comeUp_len]; rfl)
      have hO := HO.out
      have hall := hO.2
      rcases hall with ⟨rfl, he⟩ | ⟨g, c1, cur, rfl, hgb, _⟩
      · have HC0 := Lib.hid (show comeUp cs cs.length = [] from List.eq_nil_of_length_eq_zero (by rw [← HPL.out]; exact he))
        clear he hO
        go_wp2_with fail
        refine (sortStableNilQ wr).mono ?_
        rintro e w' ⟨rfl, rfl⟩
        go_wp2_with fail
        go_ret
        exact ⟨HB.out, .inl ⟨HC0.out, rfl⟩⟩
      · have HRQ := Lib.hid (show RowQ wr w.heap.size g ps.length c1 ps from hO)
        clear hO
        go_wp2_with fail
        refine (sortStableQ w.heap.size g ps.length c1 ps wr (by omega) HRQ.out).mono ?_
        rintro e w2 ⟨rfl, ⟨s', hs1, hs2, hO2⟩, hM2⟩
        obtain ⟨qs', hq1, hq2, hq3⟩ := HM.out.sorted hs1 hs2
        have hsafe := safe_row w.heap.size HO.out
        have hMM := hq1.mods hM2 (by simpa [Value.ownBlock] using hsafe)
        have HB2 := Lib.hid (Below.then_mods HB.out HB.out.size hM2 (by simp; omega))
        have HFIN := Lib.hid (show ∀ e, e = Ending.returned (.slice (some ⟨g, 0, none⟩) ps.length c1) → SinglePost cs w e w2 from fun e he => ⟨HB2.out, .inr ⟨g, c1, s', qs', by rw [he, hml.out], by rw [← hml.out]; exact hO2, hMM, hq2, hq3⟩⟩)
        clear hs1 hs2 hO2 hM2 hq1 hq2 hq3 hMM hsafe
        go_wp2_with fail
        go_ret
        exact HFIN.out _ rfl
end Go.Proofs.Ytoanhnebalapeaa
