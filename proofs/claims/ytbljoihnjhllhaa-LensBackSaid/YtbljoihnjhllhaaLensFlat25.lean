/- Lengths that are told by hand: what lens.Read does where one symbol or two stand there, and lens.Write where one symbol alone has a length. -/
import Derived.Test.YtbljoihnjhllhaaLensFlat9
import Derived.Test.YtbljoihnjhllhaaLensFlat10
import Derived.Test.YtbljoihnjhllhaaLensFlat24
import Derived.Test.YtbljoihnjhllhaaLensFlat22
import Derived.Test.YtbljoihnjhllhaaLensFlat17
namespace Go.Proofs.Ytbljoihnjhllhaa
open Go.RowKit
open Go.Proofs.YtbljoihnjhllhaaW.PrintWords
open Srt

/-! ### Bits that were written -/
theorem bitsVal_pack {l : List Int} (h : IsBits l) (p n : Nat) : bitsVal (packB l) p n = lv l p n := by
  induction n with
  | zero => rfl
  | succ n ih => simp only [bitsVal, lv, ih, bitAt_pack h]
theorem lv_own (l r : List Int) (v : Int) (n : Nat) : ∀ m, m ≤ n → lv (l ++ bitsOf v n ++ r) l.length m = v % 2 ^ m := by
  intro m
  induction m with
  | zero => intro _; simp [lv, Int.emod_one]
  | succ m ih =>
    intro hm
    have e : bl (l ++ bitsOf v n ++ r) (l.length + m) = v / 2 ^ m % 2 := by
      unfold bl
      rw [List.append_assoc, List.getElem?_append_right (by omega), List.getElem?_append_left (by rw [bitsOf_length]; omega), show l.length + m - l.length = m from by omega]
      simp [bitsOf, List.getElem?_map, List.getElem?_range (show m < n from by omega)]
    rw [lv, ih (by omega), e, Int.pow_succ, emod_two_mul _ _ (Int.le_of_lt (Int.pow_pos (by decide)))]
theorem lv_it (l r : List Int) (v : Int) (n : Nat) (h0 : 0 ≤ v) (h1 : v < 2 ^ n) : lv (l ++ bitsOf v n ++ r) l.length n = v := by
  rw [lv_own l r v n n (Nat.le_refl _)]; exact Int.emod_eq_of_lt h0 h1

set_option maxHeartbeats 1000000 in
theorem cloneI (A : Option Addr) (n c : Nat) (xs : List Int) (w : World) (HR : ReadsInt w .i64 A n xs) (hn : n ≤ 17592186044416) :
    Calls Try.prog 20 #[.slice A n c] w fun e w' => ∃ v, e = .returned v ∧ w'.ownsRow w.heap.size 3 1 v n (nums .i64 xs) ∧ Below w.heap.size w w' := by
  have HRR := Lib.hid HR
  have hbl := HR.1
  have h0 : A = none → n = 0 := fun e => by
    rcases Nat.eq_zero_or_pos n with h | h
    · exact h
    · obtain ⟨ad, e2, _⟩ := HR.2.2 h
      rw [e] at e2; cases e2
  clear HR
  cases A with
  | none =>
    have := h0 rfl
    subst this
    obtain rfl := List.length_eq_zero_iff.1 hbl
    clear h0
    have hnil : ∀ W, (binOp .eql 22 (.slice none 0 c) (.slice none 0 0)).run Try.prog W = .ok (.bool true) W := fun W => Lib.run_eql_slice_nil W 22 3 none 0 c 0 0 Try.underlying22
    go_enter Try.func20, Try.ntmps20
    go_wp2
    go_ret
    exact ⟨_, rfl, own_nil _ _ _ _, Below.refl _ _⟩
  | some ad =>
    clear h0
    have hnil : ∀ W, (binOp .eql 22 (.slice (some ad) n c) (.slice none 0 0)).run Try.prog W = .ok (.bool false) W := fun W => Lib.run_eql_slice_nil W 22 3 (some ad) n c 0 0 Try.underlying22
    go_enter Try.func20, Try.ntmps20
    go_wp2_with (at_builtin; refine print_append_row w.heap.size rfl _ _ 22 3 .i64 8 rfl Try.underlying22 info_int (by decide) _ [] xs (some ad) n c rfl rfl (by exact own_lit w w.heap.size 3 .i64 [] (Nat.le_refl _) (by decide)) (by exact HRR.out.below ((Below.refl _ w).alloc (Nat.le_refl _) _)) ((Below.refl _ w).alloc (Nat.le_refl _) _) (by simp) (by simp; omega) ?_)
    intro v1 w1 hown hB1 _ _
    obtain ⟨A1, c1, rfl, hR1⟩ := own_reads hown
    have HO := Lib.hid hown; have HB := Lib.hid hB1
    clear hown hB1 hR1
    have HL := Lib.hid hbl
    clear hbl
    go_wp2_with fail
    go_ret
    exact ⟨_, rfl, HO.out, HB.out⟩

/-- The least of the first k, with the first one. -/
def minTo (xs : List Int) : Nat → Int
  | 0 => rd xs 0
  | k + 1 => if rd xs (k : Int) < minTo xs k then rd xs (k : Int) else minTo xs k
set_option maxHeartbeats 1000000 in
theorem minI (A : Option Addr) (n c : Nat) (xs : List Int) (w : World) (HR : ReadsInt w .i64 A n xs) (hn : n ≤ 17592186044416) (h1 : 1 ≤ n) :
    Calls Try.prog 19 #[.slice A n c] w fun e w' => e = .returned (.int .i64 (minTo xs n)) ∧ w = w' := by
  have HRR := Lib.hid HR
  obtain ⟨ad, hA, hcell⟩ := ReadsInt.at_ HR 0 (by omega) (by omega)
  subst hA
  have hcell' : w.cell? ad = some (.int .i64 (rd xs 0)) := by simpa [Addr.add] using hcell
  clear hcell HR
  go_enter Try.func19, Try.ntmps19
  go_wp2_with fail
  go_loop [3, 4] (fun m i => ∃ (k : Nat) (x : Int), 1 ≤ k ∧ k ≤ n ∧ i = .int .i64 k ∧ m = .int .i64 x ∧ Hid (x = minTo xs k)) (fun _ i => n - (intOf i).toNat)
  case atStart => exact ⟨1, rd xs 0, by omega, h1, rfl, rfl, by show _ = _; simp [minTo]⟩
  case round =>
    obtain ⟨k, x, hk1, hk, rfl, rfl, HX⟩ := hrel
    by_cases hlt : k < n
    · obtain ⟨ad', hA, hc⟩ := ReadsInt.at_ HRR.out (k : Int) (by omega) (by omega)
      rw [Int.toNat_natCast] at hc
      cases hA
      have HN := Lib.hid (show minTo xs (k + 1) = (if rd xs (k : Int) < x then rd xs (k : Int) else x) from by rw [HX.out]; rfl)
      generalize rd xs (k : Int) = y at *
      go_wp2_with fail
      go_round
      case rel => exact ⟨k + 1, _, by omega, by omega, by go_num, rfl, HN.out.symm⟩
      case measure => simp [intOf]; omega
    · have hkn : k = n := by omega
      subst hkn
      go_wp2_with fail
      go_ret
      exact ⟨by rw [HX.out]; rfl, rfl⟩

/-- What writing has turned: the writer's blocks, and new ones. -/
structure Chg (w0 : World) (g : Nat) (v0 : Value) (w : World) (v : Value) : Prop where
  mods : Mods (g :: rows v0) w0 w
  own : v.ownBlock = v0.ownBlock ∨ ∃ b, v.ownBlock = some b ∧ w0.heap.size ≤ b
theorem Chg.refl (w : World) (g : Nat) (v : Value) : Chg w g v w v := ⟨Mods.refl _ _, .inl rfl⟩
theorem Chg.step {w0 w1 w2 : World} {g : Nat} {v0 v1 v2 : Value} (h : Chg w0 g v0 w1 v1) (hm : Mods (g :: rows v1) w1 w2) (ho : v2.ownBlock = v1.ownBlock ∨ ∃ b, v2.ownBlock = some b ∧ w1.heap.size ≤ b) : Chg w0 g v0 w2 v2 := by
  refine ⟨Mods.trans_new h.mods hm (fun r hr => ?_), ?_⟩
  · rcases List.mem_cons.1 hr with rfl | h1
    · exact .inl (by simp)
    · unfold rows at h1
      rcases h.own with e | ⟨b, e, hb⟩
      · rw [e] at h1; exact .inl (by simp [rows]; right; simpa using h1)
      · rw [e] at h1; simp at h1; exact .inr (by omega)
  · rcases ho with e | ⟨b, e, hb⟩
    · rw [e]; exact h.own
    · exact .inr ⟨b, e, Nat.le_trans h.mods.size hb⟩
theorem Chg.cell {w0 w : World} {g : Nat} {v0 v : Value} (h : Chg w0 g v0 w v) {ad : Addr} {x : Value} (hc : w0.cell? ad = some x) (hg : ad.block ≠ g) (hv : some ad.block ≠ v0.ownBlock) : w.cell? ad = some x :=
  (World.cell?_of_block (w := w0) (h.mods.block _ (World.block_lt_of_cell? w0 _ hc) (by simp [rows]; exact ⟨hg, fun e => hv e.symm⟩))).trans hc

set_option maxHeartbeats 1000000 in
theorem simply1 (g : Nat) (v : Value) (l : List Int) (A : Option Addr) (c : Nat) (x : Int) (w : World) (h : Wtr w g v l) (HR : ReadsInt w .i64 A 1 [x]) (hx : 0 ≤ x ∧ x < 256) (hl : l.length ≤ 1000000)
    (hA : ∀ ad, A = some ad → ad.block ≠ g ∧ some ad.block ≠ v.ownBlock) :
    Calls Try.prog 21 #[.pointer (some ⟨g, 0, none⟩), .slice A 1 c] w fun e w' => e = .returned (.tuple #[]) ∧ ∃ v', Wtr w' g v' (l ++ bitsOf 1 1 ++ bitsOf 0 1 ++ bitsOf 1 1 ++ bitsOf x 8) ∧ Chg w g v w' v' := by
  obtain ⟨ad, hAd, hcell0⟩ := ReadsInt.at_ HR 0 (by omega) (by omega)
  subst hAd
  have HC := Lib.hid (show w.cell? ad = some (.int .i64 x) from by simpa [Addr.add, rd] using hcell0)
  have H := Lib.hid h; have HA := Lib.hid (hA ad rfl)
  have hwf : (ad.block < w.heap.size) := World.block_lt_of_cell? w _ HC.out
  clear h HR hA hcell0
  go_enter Try.func21, Try.ntmps21
  go_wp2_with fail
  refine (w_bits g v l 1 1 w H.out (by omega) (by decide) (by omega)).mono ?_
  rintro e w1 ⟨rfl, v1, hW1, hM1, hv1⟩
  have HW1 := Lib.hid hW1; have HC1 := Lib.hid ((Chg.refl w g v).step hM1 hv1); clear hW1 hM1 hv1
  go_wp2_with fail
  refine (w_bits g v1 _ 0 1 w1 HW1.out (by omega) (by decide) (by simp [bitsOf_length]; omega)).mono ?_
  rintro e w2 ⟨rfl, v2, hW2, hM2, hv2⟩
  have HW2 := Lib.hid hW2; have HC2 := Lib.hid (HC1.out.step hM2 hv2); clear hW2 hM2 hv2
  go_wp2_with fail
  refine (w_bits g v2 _ 1 1 w2 HW2.out (by omega) (by decide) (by simp [bitsOf_length]; omega)).mono ?_
  rintro e w3 ⟨rfl, v3, hW3, hM3, hv3⟩
  have HW3 := Lib.hid hW3; have HC3 := Lib.hid (HC2.out.step hM3 hv3); clear hW3 hM3 hv3
  have hc3 := HC3.out.cell HC.out HA.out.1 HA.out.2
  go_wp2_with fail
  refine wp_loop_rounds 2 ?_
  rw [rounds_succ]
  go_wp2_with fail
  refine (w_bits g v3 _ x 8 w3 HW3.out (by omega) ⟨hx.1, by omega⟩ (by simp [bitsOf_length]; omega)).mono ?_
  rintro e w4 ⟨rfl, v4, hW4, hM4, hv4⟩
  have HW4 := Lib.hid hW4; have HC4 := Lib.hid (HC3.out.step hM4 hv4); clear hW4 hM4 hv4 hc3
  go_wp2_with fail
  rw [rounds_succ]
  go_wp2_with fail
  go_end0
  exact ⟨rfl, v4, HW4.out, HC4.out⟩

theorem order07 {os : List Int} (h : InOrder [0, 0, 0, 0, 0, 7] os) : os = [5] := by
  have hp : posList [0, 0, 0, 0, 0, 7] = [5] := by decide
  rw [InOrder, hp] at h
  have hl := h.2.length
  have hm := (h.2.mem 5).1 (by simp)
  match os, hl with
  | [x], _ => simp at hm; rw [hm]

set_option maxHeartbeats 2000000 in
theorem write07 (g B : Nat) (v : Value) (w : World) (h : Wtr w g v []) (HR : ReadsInt w .i64 (some ⟨B, 0, none⟩) 6 [0, 0, 0, 0, 0, 7]) :
    Calls Try.prog 7 #[.pointer (some ⟨g, 0, none⟩), .slice (some ⟨B, 0, none⟩) 6 6] w fun e w' => e = .returned (.bool true) ∧ ∃ v', Wtr w' g v' ([] ++ bitsOf 1 1 ++ bitsOf 0 1 ++ bitsOf 1 1 ++ bitsOf 5 8) ∧ Chg w g v w' v' := by
  have H := Lib.hid h; have HRR := Lib.hid HR
  have hgl : g < w.heap.size := blk_lt h.2.2.1
  have HCK := Lib.hid (show checkS [0, 0, 0, 0, 0, 7] = 0 from by decide)
  have HMN := Lib.hid (show minTo [0, 0, 0, 0, 0, 7] 6 = 0 from by decide)
  clear h HR
  go_enter Try.func7, Try.ntmps7
  go_wp2_with fail
  refine (order_any (some ⟨B, 0, none⟩) 6 6 [0, 0, 0, 0, 0, 7] w HRR.out (by omega) (by decide)).mono ?_
  rintro e w1 ⟨hB1, v1, os, rfl, hos, hown⟩
  have := order07 hos
  subst this
  obtain ⟨A1, c1, rfl, hr1⟩ := own_reads hown
  obtain ⟨ad1, hA1, hcell1⟩ := ReadsInt.at_ hr1 0 (by simp) (by simp)
  subst hA1
  have hlo := own_base hown ad1.block rfl
  have hhi := own_lt hown ad1.block rfl
  have HC1 := Lib.hid (show w1.cell? ad1 = some (.int .i64 5) from by simpa [Addr.add, rd] using hcell1)
  have HB1 := Lib.hid hB1; have HR1 := Lib.hid hr1; have HRR1 := Lib.hid (HRR.out.below hB1)
  have hz1 := hB1.size
  clear hB1 hos hown hr1 hcell1
  go_wp2_with fail
  refine (check_any (some ⟨B, 0, none⟩) 6 6 [0, 0, 0, 0, 0, 7] w1 HRR1.out (by omega)).mono ?_
  rintro e w' ⟨rfl, rfl⟩
  rw [HCK.out]
  go_wp2_with fail
  refine (minI (some ⟨B, 0, none⟩) 6 6 [0, 0, 0, 0, 0, 7] w1 HRR1.out (by omega) (by omega)).mono ?_
  rintro e w' ⟨rfl, rfl⟩
  rw [HMN.out]
  go_wp2_with fail
  refine (cloneI (some ⟨B, 0, none⟩) 6 6 [0, 0, 0, 0, 0, 7] w1 HRR1.out (by omega)).mono ?_
  rintro e w2 ⟨v2, rfl, hown2, hB2⟩
  obtain ⟨A2, c2, rfl, hr2⟩ := own_reads hown2
  obtain ⟨ad2, hA2, hcell2⟩ := ReadsInt.at_ hr2 5 (by simp) (by simp)
  subst hA2
  have hown2' := hown2
  obtain ⟨g2, c2', hv2, hg2⟩ := own_some2 hown2 (by decide)
  cases hv2
  have hc1 : w2.cell? ad1 = some (.int .i64 5) := pw_cell_below hB2 HC1.out
  obtain ⟨hc2, hf2⟩ := own_at hown2' 5 (by omega) (by omega)
  have hc2' : w2.cell? ⟨g2, 5, none⟩ = some (.int .i64 7) := by simpa [rd] using hc2
  have hf2' : w2.frozen? ⟨g2, 5, none⟩ = false := by simpa using hf2
  have HB2 := Lib.hid hB2
  have hz2 := hB2.size
  have hmS : Mods [g2] w2 (w2.setCell ⟨g2, 5, none⟩ (.int .i64 1)) := (Mods.refl _ _).setCell (by simp) _
  have hc1' : (w2.setCell ⟨g2, 5, none⟩ (.int .i64 1)).cell? ad1 = some (.int .i64 5) :=
    (World.cell?_of_block (w := w2) (hmS.block _ (World.block_lt_of_cell? w2 _ hc1) (by simp; omega))).trans hc1
  have hM12 : Mods [] w1 w2 := Mods.of_below hB2 []
  have hM01 : Mods [] w w1 := Mods.of_below HB1.out []
  have hb13 : Hid (Mods [] w (w2.setCell ⟨g2, 5, none⟩ (.int .i64 1))) := Lib.hid (Mods.trans_new (hM01.trans hM12) hmS (by simp; omega))
  have hR3 := Lib.hid (ReadsInt.mods (ReadsInt.mods HR1.out hM12 (by simp)) hmS (fun ad h => by cases h; simp; omega))
  have HMS := Lib.hid hmS
  clear hB2 hown2 hown2' hr2 hcell2 hc2 hf2 hM12 hM01 hmS
  go_wp2_with fail
  have hW3 := H.out.mods hb13.out (by simp) (by simp)
  have hvb : ∀ b, v.ownBlock = some b → b < w.heap.size := fun b hb => own_lt H.out.2.2.2 b hb
  refine (simply1 g v [] (some ad1) c1 5 _ hW3 hR3.out (by decide) (by simp) (fun ad h => by
    cases h
    exact ⟨by omega, fun e => by have := hvb _ e.symm; omega⟩)).mono ?_
  rintro e w4 ⟨rfl, v', hW4, hC4⟩
  have HW4 := Lib.hid hW4
  have HC4 := Lib.hid (show Chg w g v w4 v' from ⟨Mods.trans_new (hb13.out.mono (by simp)) hC4.mods (fun r hr => .inl hr), by
    rcases hC4.own with e | ⟨b, e, hb⟩
    · exact .inl e
    · exact .inr ⟨b, e, Nat.le_trans hb13.out.size hb⟩⟩)
  clear hW3 hvb hW4 hC4 hc1 hc2' hf2' hc1'
  go_wp2_with fail
  go_ret
  exact ⟨rfl, v', HW4.out, HC4.out⟩
end Go.Proofs.Ytbljoihnjhllhaa

/- lens.normally: lengths by steps. -/
namespace Go.Proofs.Ytbljoihnjhllhaa
open Go.RowKit
open Go.Proofs.YtbljoihnjhllhaaW.PrintWords
open Srt Sz

theorem made19 : (madeCells #[Value.int .i64 0] 19 : Array Value) = ((cntS []).map (Value.int .i64)).toArray := by rw [made_blk]; rfl
theorem step_cells {w : World} {g : Nat} {l : List Lw.St} (h : ∀ j u, (stC l)[j]? = some u → w.cell? ((⟨g, 0, none⟩ : Addr).add j) = some u) (k : Nat) (hk : k < l.length) :
    w.cell? ⟨g, k * 3, none⟩ = some (.int .i64 (l[k]'hk).1) ∧ w.cell? ⟨g, k * 3 + 1, none⟩ = some (.int .i64 (l[k]'hk).2.1) ∧ w.cell? ⟨g, k * 3 + 2, none⟩ = some (.int .i64 (l[k]'hk).2.2) := by
  have e : ∀ (l : List Lw.St) (k : Nat) (hk : k < l.length), (stC l)[k * 3]? = some (.int .i64 (l[k]'hk).1) ∧ (stC l)[k * 3 + 1]? = some (.int .i64 (l[k]'hk).2.1) ∧ (stC l)[k * 3 + 2]? = some (.int .i64 (l[k]'hk).2.2) := by
    intro l
    induction l with
    | nil => intro k hk; simp at hk
    | cons a t ih =>
      intro k hk
      have e1 : stC (a :: t) = .int .i64 a.1 :: .int .i64 a.2.1 :: .int .i64 a.2.2 :: stC t := rfl
      rw [e1]
      cases k with
      | zero => exact ⟨rfl, rfl, rfl⟩
      | succ k =>
        have := ih k (by simpa using hk)
        rw [show (k + 1) * 3 = k * 3 + 1 + 1 + 1 from by omega]
        simpa using this
  obtain ⟨a, b, c⟩ := e l k hk
  exact ⟨by have := h _ _ a; rwa [add_plain] at this, by have := h _ _ b; rwa [add_plain] at this, by have := h _ _ c; rwa [add_plain] at this⟩
theorem cells3 {w : World} {g : Nat} {a b c : Value} {T : TypeId} (h : w.heap[g]? = some (.cells #[a, b, c] T (0, 0))) : w.cell? ⟨g, 0, none⟩ = some a ∧ w.cell? ⟨g, 1, none⟩ = some b ∧ w.cell? ⟨g, 2, none⟩ = some c := by
  refine ⟨?_, ?_, ?_⟩ <;> (rw [cell_blk h]; rfl)
theorem mods_cell {S : List Nat} {w w' : World} (h : Mods S w w') {a : Addr} {u : Value} (hc : w.cell? a = some u) (ha : a.block ∉ S) : w'.cell? a = some u :=
  (World.cell?_of_block (w := w) (h.block _ (World.block_lt_of_cell? w _ hc) ha)).trans hc
theorem take_st {S : List Lw.St} {k : Nat} (hk : k < S.length) : S.take (k + 1) = S.take k ++ [S[k]'hk] := by rw [List.take_add_one, List.getElem?_eq_getElem hk]; rfl
theorem index_ord (k : Nat) (hk : k < 19) (W : World) : (Instr.index 75 (.agg ordA) (.int .i64 k)).run Try.prog W = .ok (.int .i64 (ord19.getD k 0 : Nat)) W := by
  have h : ordA[k]? = some (.int .i64 ((ord19.getD k 0 : Nat) : Int)) := by
    have : ∀ i : Fin 19, ordL[i.val]? = some ((ord19.getD i.val 0 : Nat) : Int) := by decide +kernel
    have e := this ⟨k, hk⟩
    simp only at e
    unfold ordA
    simp only [List.getElem?_toArray, List.getElem?_map, e, Option.map_some]
  have hb : ¬ ((k : Int) < 0) := by omega
  have hs : k < ordA.size := hk
  have hv : ordA[k] = .int .i64 ((ord19.getD k 0 : Nat) : Int) := by
    rw [Array.getElem?_eq_getElem hs] at h; exact Option.some.inj h
  simp [Instr.index, run_underlying Try.underlying75, asIntOf, go_sem, h]
  intro h19; omega
theorem stB_len {sh : List Int} {st : Lw.St} (h : Lw.Fine st ∧ hasS sh st.1 = true) (hc : ∀ s : Nat, (costS sh s).toNat ≤ 15) : (stB sh st).length ≤ 22 := by
  unfold stB
  rw [List.length_append, sb_len, bitsOf_len]
  have h1 := hc st.1.toNat
  have h2 := h.1.2.2.2.2
  have h3 : st.2.2.toNat ≤ 7 := by
    rw [h2]
    obtain ⟨b, hb, hb7⟩ := wid_nat st.1
    rw [hb]; omega
  omega
theorem cost_15 {sh : List Int} (hx : ∀ x ∈ sh, 0 ≤ x ∧ x ≤ 7) (s : Nat) : (costS sh s).toNat ≤ 15 := by
  unfold costS
  split
  · rename_i h
    split
    · simp
    · have hs : (s : Int).toNat < sh.length := by
        unfold hasS at h; simp at h; rw [Int.toNat_natCast]; omega
      have := hx _ (ln_mem hs)
      omega
  · simp
theorem stsB_len (sh : List Int) (l : List Lw.St) (h : ∀ st ∈ l, Lw.Fine st ∧ hasS sh st.1 = true) (hx : ∀ x ∈ sh, 0 ≤ x ∧ x ≤ 7) : (stsB sh l).length ≤ 22 * l.length := by
  induction l with
  | nil => exact Nat.le_refl _
  | cons a t ih =>
    have h1 := stB_len (h a (by simp)) (cost_15 hx)
    have h2 := ih (fun st hs => h st (List.mem_cons_of_mem _ hs))
    have e : stsB sh (a :: t) = stB sh a ++ stsB sh t := rfl
    rw [e, List.length_append, List.length_cons]; omega
theorem Chg.below {w0 w w' : World} {g : Nat} {v0 v : Value} (h : Chg w0 g v0 w v) (hb : Below w.heap.size w w') : Chg w0 g v0 w' v := ⟨h.mods.trans_new (Mods.of_below hb []) (by simp), h.own⟩
theorem Chg.room {w0 w : World} {g lo : Nat} {v0 v : Value} (h : Chg w0 g v0 w v) (hg : g < lo) (hv : ∀ b, v0.ownBlock = some b → b < lo) : ∀ s ∈ g :: rows v, s < lo ∨ w0.heap.size ≤ s := by
  intro s hs
  rcases List.mem_cons.1 hs with rfl | h1
  · exact .inl hg
  · unfold rows at h1
    rcases h.own with e | ⟨b, e, hb⟩
    · rw [e] at h1; exact .inl (hv s (by simpa using h1))
    · rw [e] at h1; simp at h1; exact .inr (by omega)
theorem Chg.tree {w0 w : World} {g lo B : Nat} {v0 v : Value} {ls os : List Int} (h : Chg w0 g v0 w v) (hg : g < lo) (hv : ∀ b, v0.ownBlock = some b → b < lo) (ht : IsTree w0 B w0.heap.size ls os) (ha : Above w0 B lo) : IsTree w B w0.heap.size ls os ∧ ∀ w', Mods (g :: rows v) w w' → IsTree w' B w0.heap.size ls os := by
  have h1 := ht.keep ha h.mods ((Chg.refl w0 g v0).room hg hv)
  exact ⟨h1.1, fun w' hm => (h1.1.keep h1.2 hm (h.room hg hv)).1⟩
set_option maxRecDepth 100000 in
set_option maxHeartbeats 8000000 in
theorem normally_any (g : Nat) (v : Value) (l : List Int) (A : Option Addr) (n c : Nat) (ls : List Int) (w : World) (h : Wtr w g v l) (HR : ReadsInt w .i64 A n ls) (h1 : 1 ≤ n) (hn : n ≤ 4096) (hx : ∀ x ∈ ls, 0 ≤ x ∧ x ≤ 15) (hl : l.length ≤ 1000000000) :
    Calls Try.prog 22 #[.pointer (some ⟨g, 0, none⟩), .slice A n c] w fun e w' => e = .returned (.tuple #[]) ∧ ∃ v', Wtr w' g v' (l ++ stepB ls) ∧ Chg w g v w' v' := by
  have H := Lib.hid h; have HRR := Lib.hid HR; have HX := Lib.hid hx
  have hln : ls.length = n := HR.1
  have hgl : g < w.heap.size := blk_lt h.2.2.1
  have HVB := Lib.hid (fun b (hb : v.ownBlock = some b) => own_lt h.2.2.2 b hb)
  have HSF := Lib.hid (steps_few hx)
  have HSF2 := Lib.hid (fun sh hB => short_good hx (by omega) (by omega) (sh := sh) hB)
  have HOK := Lib.hid (cntS_ok (l := Lw.steps ls) (by have := steps_few hx; omega))
  have HFI := Lib.hid (Lw.steps_fine ls.length ls (Nat.le_refl _) hx)
  have hpos : 0 < (Lw.steps ls).length := by
    have hp := Lw.play_steps ls.length ls (Nat.le_refl _) hx 8
    cases hs : Lw.steps ls with
    | nil => rw [hs] at hp; have : ls = [] := hp.symm; subst this; simp at hln; omega
    | cons a t => simp
  have hmax : (Lw.steps ls).length ≤ 4096 := by have := steps_few hx; omega
  have HLN := Lib.hid hln
  clear h HR hx hln
  obtain ⟨S, hS⟩ : ∃ S, Lw.steps ls = S := ⟨_, rfl⟩
  have HSS := Lib.hid hS
  rw [hS] at hpos hmax HOK HFI
  clear hS
  have hmk : ∀ W, (Instr.makeSlice 22 (.int .i64 19) (.int .i64 19)).run Try.prog W = .ok (.slice (some ⟨W.heap.size, 0, none⟩) 19 19) (W.alloc (.cells (madeCells #[.int .i64 0] 19) 3)) := fun W => print_make (P := Try.prog) 22 3 .i64 8 Try.underlying22 info_int (by decide) 19 (by omega) W
  go_enter Try.func22, Try.ntmps22
  go_wp2_with fail
  refine (steps_any07 A n c ls w HRR.out HX.out hn).mono ?_
  rintro e w1 ⟨sv, rfl, hO1, hB1⟩
  rw [HSS.out] at hO1
  obtain ⟨g1, c1, rfl, hg1⟩ := own_someQ3 hO1 hpos
  have hz1 := hB1.size
  have hlt1 : g1 < w1.heap.size := own_lt hO1 g1 rfl
  have HC1 := Lib.hid (World.ownsRow.cells hO1 rfl)
  have HB1 := Lib.hid hB1
  clear hO1 hB1
  go_wp2_with fail
  rw [made19]
  obtain ⟨G, hG⟩ : ∃ G, w1.heap.size = G := ⟨_, rfl⟩
  have HK2 := Lib.hid (show BlkI (w1.alloc (.cells ((cntS []).map (Value.int .i64)).toArray 3)) G (cntS (S.take 0)) from by rw [← hG]; exact alloc_new _ _ _)
  have HM2 := Lib.hid (show Mods [] w1 (w1.alloc (.cells ((cntS []).map (Value.int .i64)).toArray 3)) from (Mods.refl _ _).alloc _)
  have hz2 : (w1.alloc (.cells ((cntS []).map (Value.int .i64)).toArray 3)).heap.size = G + 1 := by rw [World.size_alloc, hG]
  have hgG : g1 < G := by rw [← hG]; exact hlt1
  rw [hG]
  clear hG
  generalize w1.alloc (.cells ((cntS []).map (Value.int .i64)).toArray 3) = w2 at *
  have HZ2 := Lib.hid hz2
  obtain ⟨N, hN⟩ : ∃ N, S.length = N := ⟨_, rfl⟩
  rw [hN] at hpos hmax
  rw [hN]
  have HN := Lib.hid hN
  clear hN hz2 hmk
  go_loopw [7, 21] (fun _ kv wr => ∃ k : Nat, k ≤ N ∧ kv = .int .i64 k ∧ Hid (BlkI wr G (cntS (S.take k))) ∧ Hid (Mods [G] w2 wr)) (fun _ kv _ => N - (intOf kv).toNat)
  case atStart => exact ⟨0, by omega, rfl, HK2, Lib.hid (Mods.refl _ _)⟩
  case round =>
    clear HK2
    obtain ⟨k, hk, rfl, HK, HM⟩ := hrel
    by_cases hlt : k < N
    · have hkl : k < S.length := by rw [HN.out]; exact hlt
      obtain ⟨t0, t1, t2⟩ := step_cells HC1.out k hkl
      have HTK := Lib.hid (take_st hkl)
      have HFK := Lib.hid (HFI.out _ (List.getElem_mem hkl))
      generalize S[k]'hkl = st at *
      obtain ⟨sy, ex, bt⟩ := st
      simp only at t0 t1 t2
      obtain ⟨f0, f1, _⟩ := HFK.out
      simp only at f0 f1
      obtain ⟨sn, rfl⟩ := Int.eq_ofNat_of_zero_le f0
      have hM02 : Mods [G] w1 wr := (HM2.out.mono (R := [G]) (by simp)).trans HM.out
      have hzr : G + 1 ≤ wr.heap.size := by have := HM.out.size; have := HZ2.out; omega
      have t0' := mods_cell hM02 t0 (by simp; omega)
      have t1' := mods_cell hM02 t1 (by simp; omega)
      have t2' := mods_cell hM02 t2 (by simp; omega)
      have hbd := cntS_bound (S.take k) sn
      have htl : (S.take k).length ≤ 4096 := by rw [List.length_take]; omega
      have hcg : ∀ o, (wr.alloc o).cell? ⟨G, sn, none⟩ = some (.int .i64 (ln (cntS (S.take k)) sn)) := fun o => by have := (HK.out.mods ((Mods.refl [] wr).alloc o) (by simp)).at sn (by rw [cntS_len]; omega); rwa [rd_lnS] at this
      have hfg : ∀ o, (wr.alloc o).frozen? ⟨G, sn, none⟩ = false := fun o => free_blk (HK.out.mods ((Mods.refl [] wr).alloc o) (by simp)) sn
      have HSN := Lib.hid (show (cntS (S.take k)).set sn (ln (cntS (S.take k)) sn + 1) = cntS (S.take (k + 1)) from by
        have h := cntS_snoc (S.take k) ((sn : Int), ex, bt) (by simp) (by simpa using f1)
        simp only [Int.toNat_natCast] at h
        rw [HTK.out]; exact h)
      have hbd0 := hbd.1
      have hbd1 : ln (cntS (S.take k)) sn ≤ 4096 := by omega
      clear t0 t1 t2 hM02 hbd htl
      obtain ⟨q, hq⟩ : ∃ q, ln (cntS (S.take k)) sn = q := ⟨_, rfl⟩
      simp only [hq] at hcg hbd0 hbd1 HSN
      clear hq
      have d1 : decide ((k : Int) < (N : Int)) = true := decide_eq_true (by omega)
      have d2 : decide (k < N) = true := decide_eq_true (by omega)
      have s0 : (sn : Int) < 19 := by omega
      go_wp2_with fail
      go_roundw
      case rel =>
        refine ⟨k + 1, by omega, by go_num, Lib.hid ?_, Lib.hid ?_⟩
        · rw [← HSN.out]
          exact (HK.out.mods ((Mods.refl [] wr).alloc _) (by simp)).set sn (q + 1)
        · exact (HM.out.alloc _).setCell (by simp) _
      case measure => simp [intOf]; omega
    · have d1 : decide ((k : Int) < (N : Int)) = false := decide_eq_false (by omega)
      have d2 : decide (k < N) = false := decide_eq_false (by omega)
      obtain rfl : k = N := by omega
      have HKN := Lib.hid (show BlkI wr G (cntS S) from by have h := HK.out; rw [show S.take k = S from by rw [← HN.out]; exact List.take_length] at h; exact h)
      have hzr : G + 1 ≤ wr.heap.size := by have := HM.out.size; have := HZ2.out; omega
      have HM1 := Lib.hid (show Mods [G] w1 wr from (HM2.out.mono (R := [G]) (by simp)).trans HM.out)
      have HC1r := Lib.hid (fun j u h => mods_cell HM1.out (HC1.out j u h) (by rw [add_plain]; simp; omega))
      clear HK HM
      have HRC := Lib.hid (show ReadsInt wr .i64 (some ⟨G, 0, none⟩) 19 (cntS S) from by have h := HKN.out.reads (by rw [cntS_len]; decide); rwa [cntS_len] at h)
      go_wp2_with fail
      refine (best_any (some ⟨G, 0, none⟩) 19 19 (cntS S) 7 wr HRC.out).mono ?_
      rintro e w3 ⟨hB3, hc3⟩
      rcases hc3 with ⟨hbad, _⟩ | ⟨_, bv, sh, rfl, hO3, hBest⟩
      · rw [HOK.out] at hbad; cases hbad
      obtain ⟨s1, s2, s3, s4⟩ := HSF2.out sh (by rw [HSS.out]; exact hBest)
      obtain ⟨g3, c3, rfl, hg3⟩ := own_someQ3 hO3 (by decide)
      have hr3 : ReadsInt w3 .i64 (some ⟨g3, 0, none⟩) 19 sh := by
        obtain ⟨A', c', he, hr⟩ := own_reads hO3
        cases he
        exact hr
      have hc19 := own_cap hO3
      have HR3 := Lib.hid hr3
      have HS1 := Lib.hid s1; have HS2 := Lib.hid s2; have HS3 := Lib.hid s3; have HS4 := Lib.hid s4; have HBE := Lib.hid hBest.is
      have hz3 := hB3.size
      have HB3 := Lib.hid hB3
      clear hB3 hO3 hr3 s1 s2 s3 s4 hBest
      go_wp2_with fail
      refine (tree_new2 (some ⟨g3, 0, none⟩) 19 c3 sh w3 HR3.out (by omega) hc19 HS3.out).mono ?_
      rintro e w4 ⟨hB4, B, os, rfl, hBw, hT4, hA4⟩
      have HM04 := Lib.hid (show Mods [] w w4 from ((((Mods.of_below HB1.out []).trans_new HM1.out (by simp; omega)).trans_new (Mods.of_below HB3.out []) (by simp)).trans_new (Mods.of_below hB4 []) (by simp)))
      have hzwr : w.heap.size ≤ wr.heap.size := by have := HM1.out.size; omega
      have HVL := Lib.hid (fun b (hb : v.ownBlock = some b) => show b < w3.heap.size from by have := HVB.out b hb; omega)
      have HW4 := Lib.hid (H.out.mods HM04.out (by simp) (by simp))
      have HC4 := Lib.hid (Chg.refl w4 g v)
      have HT4 := Lib.hid hT4; have HA4 := Lib.hid hA4
      have HR4 := Lib.hid (ReadsInt.mods HR3.out (Mods.of_below hB4 []) (by simp))
      have HS4c := Lib.hid (show ∀ j u, (stC S)[j]? = some u → w4.cell? ((⟨g1, 0, none⟩ : Addr).add j) = some u from fun j u h => mods_cell (Mods.of_below hB4 []) (mods_cell (Mods.of_below HB3.out []) (HC1r.out j u h) (by simp)) (by simp))
      have hz4 := hB4.size
      have hg3w : w.heap.size ≤ g3 := by omega
      have hgl3 : g < w3.heap.size := by omega
      clear hB4 hT4 hA4
      go_wp2_with fail
      refine (w_bits g v l 0 1 w4 HW4.out (by omega) (by decide) (by omega)).mono ?_
      rintro e w5 ⟨rfl, v5, hW5, hM5, hv5⟩
      have HW5 := Lib.hid hW5; have HC5 := Lib.hid (HC4.out.step hM5 hv5); clear hW5 hM5 hv5
      go_wp2_with fail
      refine (w_bits g v5 _ 15 4 w5 HW5.out (by omega) (by decide) (by simp [bitsOf_length]; omega)).mono ?_
      rintro e w6 ⟨rfl, v6, hW6, hM6, hv6⟩
      have HW6 := Lib.hid hW6; have HC6 := Lib.hid (HC5.out.step hM6 hv6); clear hW6 hM6 hv6
      go_wp2_with fail
      refine (order_arr w6).mono ?_
      rintro e w7 ⟨rfl, hB7⟩
      rw [show (ordL.map (Value.int .i64)).toArray = ordA from rfl]
      have HW7 := Lib.hid (HW6.out.mods (Mods.of_below hB7 []) (by simp) (by simp)); have HC7 := Lib.hid (HC6.out.below hB7)
      clear hB7
      have hixO := index_ord
      obtain ⟨OA, hOA⟩ : ∃ OA, ordA = OA := ⟨_, rfl⟩
      rw [hOA] at hixO
      rw [hOA]
      have HIX := Lib.hid hixO
      clear hOA hixO
      go_wp2_with fail
      go_loopw [13, 48] (fun _ kv wq => ∃ (k2 : Nat) (vq : Value), k2 ≤ 19 ∧ kv = .int .i64 k2 ∧ Hid (Wtr wq g vq (l ++ bitsOf 0 1 ++ bitsOf 15 4 ++ (ord19.take k2).flatMap (fun x => bitsOf (sh.getD x 0) 3))) ∧ Hid (Chg w4 g v wq vq)) (fun _ kv _ => 19 - (intOf kv).toNat)
      case atStart => exact ⟨0, v6, by omega, rfl, Lib.hid (by rw [show (ord19.take 0).flatMap (fun x => bitsOf (sh.getD x 0) 3) = [] from rfl, List.append_nil]; exact HW7.out), HC7⟩
      case round =>
        clear HW5 HC5 HW6 HC6 HW7 HC7
        obtain ⟨k2, vq, hk2, rfl, HWq, HCq⟩ := hrel
        by_cases hk19 : k2 < 19
        · have hix := HIX.out k2 hk19
          obtain ⟨oi, hoi⟩ : ∃ oi, ord19.getD k2 0 = oi := ⟨_, rfl⟩
          have ho19 : oi < 19 := by rw [← hoi]; exact (ordL_at k2 hk19).2
          simp only [hoi] at hix
          have HTO := Lib.hid (show (ord19.take (k2 + 1)).flatMap (fun x => bitsOf (sh.getD x 0) 3) = (ord19.take k2).flatMap (fun x => bitsOf (sh.getD x 0) 3) ++ bitsOf (sh.getD oi 0) 3 from by
            have e : ∀ k, k < 19 → ord19.take (k + 1) = ord19.take k ++ [ord19.getD k 0] := by decide
            rw [e k2 hk19, hoi, List.flatMap_append]; simp)
          have hRq : ReadsInt wr .i64 (some ⟨g3, 0, none⟩) 19 sh := ReadsInt.mods HR4.out HCq.out.mods (fun ad h => by
            cases h
            simp [rows]
            exact ⟨by omega, fun e => by have := HVB.out g3 e; omega⟩)
          obtain ⟨ad3, hA3, hcell3⟩ := ReadsInt.at_ hRq (oi : Int) (by omega) (by omega)
          cases hA3
          have hc3 : wr.cell? ⟨g3, oi, none⟩ = some (.int .i64 (sh.getD oi 0)) := by
            rw [Int.toNat_natCast, add_plain] at hcell3
            exact hcell3
          have hsv : 0 ≤ sh.getD oi 0 ∧ sh.getD oi 0 ≤ 7 := by
            rw [List.getD_eq_getElem?_getD, List.getElem?_eq_getElem (by rw [HS1.out]; exact ho19)]
            exact HS2.out _ (List.getElem_mem _)
          have hfl : ((ord19.take k2).flatMap (fun x => bitsOf (sh.getD x 0) 3)).length ≤ 57 := by
            have e : ∀ l : List Nat, (l.flatMap (fun x => bitsOf (sh.getD x 0) 3)).length = 3 * l.length := fun l => by
              induction l with
              | nil => rfl
              | cons a t ih => rw [List.flatMap_cons, List.length_append, ih, bitsOf_len, List.length_cons]; omega
            rw [e, List.length_take]; simp [ord19]; omega
          clear hRq hcell3 hoi
          obtain ⟨sv, hsvv⟩ : ∃ sv, sh.getD oi 0 = sv := ⟨_, rfl⟩
          simp only [hsvv] at hc3 hsv HTO
          clear hsvv
          obtain ⟨hsv0, hsv1⟩ := hsv
          have d1 : decide ((k2 : Int) < 19) = true := decide_eq_true (by omega)
          have d2 : (k2 : Int) < 19 := by omega
          have d3 : (oi : Int) < 19 := by omega
          go_wp2_with fail
          refine (w_bits g vq _ sv 3 wr HWq.out (by omega) ⟨hsv0, by omega⟩ (by simp only [List.length_append, bitsOf_length]; omega)).mono ?_
          rintro e w8 ⟨rfl, v8, hW8, hM8, hv8⟩
          have HW8 := Lib.hid hW8; have HC8 := Lib.hid (HCq.out.step hM8 hv8); clear hW8 hM8 hv8
          go_wp2_with fail
          go_roundw
          case rel => exact ⟨k2 + 1, v8, by omega, by go_num, Lib.hid (by rw [HTO.out, ← List.append_assoc]; exact HW8.out), HC8⟩
          case measure => simp [intOf]; omega
        · have d1 : decide ((k2 : Int) < 19) = false := decide_eq_false (by omega)
          obtain rfl : k2 = 19 := by omega
          clear hk19
          have HWs := Lib.hid (show Wtr wr g vq (l ++ bitsOf 0 1 ++ bitsOf 15 4 ++ shortB sh) from HWq.out)
          clear HWq
          go_wp2_with fail
          refine (w_bits g vq _ 0 1 wr HWs.out (by omega) (by decide) (by simp only [List.length_append, bitsOf_length, shortB_len]; omega)).mono ?_
          rintro e w9 ⟨rfl, v9, hW9, hM9, hv9⟩
          have HW9 := Lib.hid hW9; have HC9 := Lib.hid (HCq.out.step hM9 hv9); clear hW9 hM9 hv9 HWs HCq
          go_wp2_with fail
          go_loopw [15, 63] (fun _ kv wq => ∃ (k3 : Nat) (vq : Value), k3 ≤ k ∧ kv = .int .i64 k3 ∧ Hid (Wtr wq g vq (l ++ bitsOf 0 1 ++ bitsOf 15 4 ++ shortB sh ++ bitsOf 0 1 ++ stsB sh (S.take k3))) ∧ Hid (Chg w4 g v wq vq)) (fun _ kv _ => k - (intOf kv).toNat)
          case atStart => exact ⟨0, v9, by omega, rfl, Lib.hid (by rw [show stsB sh (S.take 0) = [] from rfl, List.append_nil]; exact HW9.out), HC9⟩
          case round =>
            clear HW9 HC9
            obtain ⟨k3, vq, hk3, rfl, HWq, HCq⟩ := hrel
            by_cases hlt3 : k3 < k
            · have hkl : k3 < S.length := by rw [HN.out]; exact hlt3
              obtain ⟨t0, t1, t2⟩ := step_cells HS4c.out k3 hkl
              have HTK := Lib.hid (take_st hkl)
              have HFK := Lib.hid (HFI.out _ (List.getElem_mem hkl))
              have HHS := Lib.hid ((HS4.out (S[k3]'hkl) (by rw [HSS.out]; exact List.getElem_mem hkl)).2)
              generalize S[k3]'hkl = st at *
              obtain ⟨sy, ex, bt⟩ := st
              simp only at t0 t1 t2
              obtain ⟨f0, f1, f2, f3, f4⟩ := HFK.out
              simp only at f0 f1 f2 f3 f4
              obtain ⟨sn, rfl⟩ := Int.eq_ofNat_of_zero_le f0
              obtain ⟨bn, hbn, hbn7⟩ := wid_nat (sn : Int)
              have hbt : bt = (bn : Int) := by rw [f4, hbn]
              subst hbt
              rw [Int.toNat_natCast] at f3
              have hex : ex ≤ 127 := by
                have : (2 : Int) ^ bn ≤ 2 ^ 7 := by exact_mod_cast Nat.pow_le_pow_right (by decide) hbn7
                omega
              have HF3 := Lib.hid f3
              clear f4 hbn f3 f0
              have hgn : ∀ x : Value, some g1 ≠ v.ownBlock := fun _ e => by have := HVB.out g1 e.symm; omega
              have t0' := mods_cell HCq.out.mods t0 (by simp [rows]; exact ⟨by omega, fun e => hgn undef e.symm⟩)
              have t1' := mods_cell HCq.out.mods t1 (by simp [rows]; exact ⟨by omega, fun e => hgn undef e.symm⟩)
              have t2' := mods_cell HCq.out.mods t2 (by simp [rows]; exact ⟨by omega, fun e => hgn undef e.symm⟩)
              clear t0 t1 t2 hgn
              have d1 : decide ((k3 : Int) < (k : Int)) = true := decide_eq_true (by omega)
              have d2 : decide (k3 < k) = true := decide_eq_true (by omega)
              have hstl : (stsB sh (S.take k3)).length ≤ 22 * k3 := by
                have h := stsB_len sh (S.take k3) (fun st hs => HS4.out st (by rw [HSS.out]; exact List.mem_of_mem_take hs)) HS2.out
                rw [List.length_take] at h; omega
              go_wp2_with fail
              have HQ := Lib.hid (alloc_new wr #[.int .i64 sn, .int .i64 ex, .int .i64 bn] 70)
              have HBa := Lib.hid ((Below.refl wr.heap.size wr).alloc (Nat.le_refl _) (.cells #[.int .i64 sn, .int .i64 ex, .int .i64 bn] 70))
              have hza : (wr.alloc (.cells #[.int .i64 sn, .int .i64 ex, .int .i64 bn] 70)).heap.size = wr.heap.size + 1 := by simp
              generalize wr.alloc (.cells #[.int .i64 sn, .int .i64 ex, .int .i64 bn] 70) = wa at *
              have hCa := HCq.out.below HBa.out
              have hWa := HWq.out.mods (Mods.of_below HBa.out []) (by simp) (by simp)
              have hTa := hCa.tree hgl3 HVL.out HT4.out HA4.out
              have hown : ∀ b, vq.ownBlock = some b → b < wr.heap.size := fun b hb => own_lt HWq.out.2.2.2 b hb
              have hgw : g < wr.heap.size := blk_lt HWq.out.2.2.1
              have HCa := Lib.hid hCa; have HWa := Lib.hid hWa; have HOW := Lib.hid hown
              have hlen : (l ++ bitsOf 0 1 ++ bitsOf 15 4 ++ shortB sh ++ bitsOf 0 1 ++ stsB sh (S.take k3)).length ≤ 1000000000 + 63 + 22 * 4096 := by
                simp only [List.length_append, bitsOf_len, shortB_len]; omega
              have HTW := Lib.hid (write_any_k B w4.heap.size g sh os vq _ sn wa hTa.1 HHS.out hWa hTa.2 (by omega))
              clear hCa hWa hTa hown HCq HWq
              refine HTW.out.mono ?_
              rintro e wb ⟨rfl, vb, hWb, hMb, hvb⟩
              have HCb := Lib.hid (HCa.out.step hMb hvb)
              have hQb := hMb.blk HQ.out (by simp [rows]; exact ⟨by omega, fun e => by have := HOW.out _ e; omega⟩)
              obtain ⟨y0, y1, y2⟩ := cells3 hQb
              have HWb := Lib.hid hWb
              clear hWb hMb hvb HTW HCa HWa hQb
              go_wp2_with fail
              refine (w_bits g vb _ ex bn wb HWb.out (by omega) ⟨f2, HF3.out⟩ (by rw [List.length_append, codeBits_length]; have := cost_15 HS2.out sn; omega)).mono ?_
              rintro e wc ⟨rfl, vc, hWc, hMc, hvc⟩
              have HCc := Lib.hid (HCb.out.step hMc hvc); have HWc := Lib.hid hWc
              clear hWc hMc hvc y0 y1 y2
              go_wp2_with fail
              go_roundw
              case rel =>
                refine ⟨k3 + 1, vc, by omega, by go_num, Lib.hid ?_, HCc⟩
                have e : stsB sh (S.take (k3 + 1)) = stsB sh (S.take k3) ++ (sb sh sn ++ bitsOf ex bn) := by
                  rw [HTK.out]; unfold stsB; rw [List.flatMap_append]; simp [stB]
                rw [e]
                have h := HWc.out
                simp only [List.append_assoc] at h ⊢
                exact h
              case measure => simp [intOf]; omega
            · have d1 : decide ((k3 : Int) < (k : Int)) = false := decide_eq_false (by omega)
              have d2 : decide (k3 < k) = false := decide_eq_false (by omega)
              obtain rfl : k3 = k := by omega
              have HEND := Lib.hid (show l ++ bitsOf 0 1 ++ bitsOf 15 4 ++ shortB sh ++ bitsOf 0 1 ++ stsB sh (S.take k3) = l ++ stepB ls from by
                rw [show S.take k3 = S from by rw [← HN.out]; exact List.take_length]
                unfold stepB normB
                rw [HSS.out, ← HBE.out]
                simp only [List.append_assoc])
              go_wp2_with fail
              go_end0
              refine ⟨rfl, vq, by have h := HWq.out; rw [HEND.out] at h; exact h, ?_⟩
              refine ⟨Mods.trans_new (HM04.out.mono (by simp)) HCq.out.mods (fun r hr => .inl hr), ?_⟩
              rcases HCq.out.own with e | ⟨b, e, hb⟩
              · exact .inl e
              · exact .inr ⟨b, e, Nat.le_trans HM04.out.size hb⟩
end Go.Proofs.Ytbljoihnjhllhaa

/- lens.simply of two symbols. -/
namespace Go.Proofs.Ytbljoihnjhllhaa
open Go.RowKit
open Go.Proofs.YtbljoihnjhllhaaW.PrintWords
open Srt

set_option maxHeartbeats 1000000 in
theorem simply2 (g : Nat) (v : Value) (l : List Int) (A : Option Addr) (c : Nat) (x y : Int) (w : World) (h : Wtr w g v l) (HR : ReadsInt w .i64 A 2 [x, y]) (hx : 0 ≤ x ∧ x < 256) (hy : 0 ≤ y ∧ y < 256) (hl : l.length ≤ 1000000)
    (hA : ∀ ad, A = some ad → ad.block ≠ g ∧ some ad.block ≠ v.ownBlock) :
    Calls Try.prog 21 #[.pointer (some ⟨g, 0, none⟩), .slice A 2 c] w fun e w' => e = .returned (.tuple #[]) ∧ ∃ v', Wtr w' g v' (l ++ bitsOf 1 1 ++ bitsOf 1 1 ++ bitsOf 1 1 ++ bitsOf x 8 ++ bitsOf y 8) ∧ Chg w g v w' v' := by
  obtain ⟨ad, hAd, hcell0⟩ := ReadsInt.at_ HR 0 (by omega) (by omega)
  obtain ⟨ad2, hAd2, hcell1⟩ := ReadsInt.at_ HR 1 (by omega) (by omega)
  subst hAd
  cases hAd2
  have HC := Lib.hid (show w.cell? ad = some (.int .i64 x) from by simpa [Addr.add, rd] using hcell0)
  have HD := Lib.hid (show w.cell? (ad.add 1) = some (.int .i64 y) from by simpa [rd] using hcell1)
  have hbk : Hid ((ad.add 1).block = ad.block) := Lib.hid (by unfold Addr.add; split <;> rfl)
  have H := Lib.hid h; have HA := Lib.hid (hA ad rfl)
  have hwf : (ad.block < w.heap.size) := World.block_lt_of_cell? w _ HC.out
  clear h HR hA hcell0 hcell1
  go_enter Try.func21, Try.ntmps21
  go_wp2_with fail
  refine (w_bits g v l 1 1 w H.out (by omega) (by decide) (by omega)).mono ?_
  rintro e w1 ⟨rfl, v1, hW1, hM1, hv1⟩
  have HW1 := Lib.hid hW1; have HC1 := Lib.hid ((Chg.refl w g v).step hM1 hv1); clear hW1 hM1 hv1
  go_wp2_with fail
  refine (w_bits g v1 _ 1 1 w1 HW1.out (by omega) (by decide) (by simp [bitsOf_length]; omega)).mono ?_
  rintro e w2 ⟨rfl, v2, hW2, hM2, hv2⟩
  have HW2 := Lib.hid hW2; have HC2 := Lib.hid (HC1.out.step hM2 hv2); clear hW2 hM2 hv2
  go_wp2_with fail
  refine (w_bits g v2 _ 1 1 w2 HW2.out (by omega) (by decide) (by simp [bitsOf_length]; omega)).mono ?_
  rintro e w3 ⟨rfl, v3, hW3, hM3, hv3⟩
  have HW3 := Lib.hid hW3; have HC3 := Lib.hid (HC2.out.step hM3 hv3); clear hW3 hM3 hv3
  have hc3 := HC3.out.cell HC.out HA.out.1 HA.out.2
  go_wp2_with fail
  refine wp_loop_rounds 3 ?_
  rw [rounds_succ]
  go_wp2_with fail
  refine (w_bits g v3 _ x 8 w3 HW3.out (by omega) ⟨hx.1, by omega⟩ (by simp [bitsOf_length]; omega)).mono ?_
  rintro e w4 ⟨rfl, v4, hW4, hM4, hv4⟩
  have HW4 := Lib.hid hW4; have HC4 := Lib.hid (HC3.out.step hM4 hv4); clear hW4 hM4 hv4 hc3
  have hc4 := HC4.out.cell HD.out (by rw [hbk.out]; exact HA.out.1) (by rw [hbk.out]; exact HA.out.2)
  have hc5 := hc4
  simp [Addr.add] at hc5
  go_wp2_with fail
  rw [rounds_succ]
  go_wp2_with fail
  refine (w_bits g v4 _ y 8 w4 HW4.out (by omega) ⟨hy.1, by omega⟩ (by simp [bitsOf_length]; omega)).mono ?_
  rintro e w5 ⟨rfl, v5, hW5, hM5, hv5⟩
  have HW5 := Lib.hid hW5; have HC5 := Lib.hid (HC4.out.step hM5 hv5); clear hW5 hM5 hv5 hc4
  go_wp2_with fail
  rw [rounds_succ]
  go_wp2_with fail
  go_end0
  exact ⟨rfl, v5, HW5.out, HC5.out⟩
end Go.Proofs.Ytbljoihnjhllhaa
