/- Lengths that are told by hand: what lens.Read does where one symbol or two stand there, and lens.Write where one symbol alone has a length. -/
import Derived.Test.YtcjfipkbjcpbgaaLensA
namespace Go.Proofs.Ytcjfipkbjcpbgaa
open Go.RowKit
open Go.Proofs.YtcjfipkbjcpbgaaW.PrintWords
open Srt

/-! ### Bits that were written -/
theorem bitsVal_pack {l : List Int} (h : IsBits l) (p n : Nat) : bitsVal (packB l) p n = lv l p n := by
  induction n with
  | zero => rfl
  | succ n ih => simp only [bitsVal, lv, ih, bitAt_pack h]
theorem lv_own (l r : List Int) (v : Int) (n : Nat) : ∀ m, m ≤ n → lv (l ++ bitsOf v n ++ r) l.length m = v % 2 ^ m := by
  intro m
  induction m with
  | zero => intro _; simp [lv, Int.emod_one]
  | succ m ih =>
    intro hm
    have e : bl (l ++ bitsOf v n ++ r) (l.length + m) = v / 2 ^ m % 2 := by
      unfold bl
      rw [List.append_assoc, List.getElem?_append_right (by omega), List.getElem?_append_left (by rw [bitsOf_length]; omega), show l.length + m - l.length = m from by omega]
      simp [bitsOf, List.getElem?_map, List.getElem?_range (show m < n from by omega)]
    rw [lv, ih (by omega), e, Int.pow_succ, emod_two_mul _ _ (Int.le_of_lt (Int.pow_pos (by decide)))]
theorem lv_it (l r : List Int) (v : Int) (n : Nat) (h0 : 0 ≤ v) (h1 : v < 2 ^ n) : lv (l ++ bitsOf v n ++ r) l.length n = v := by
  rw [lv_own l r v n n (Nat.le_refl _)]; exact Int.emod_eq_of_lt h0 h1

set_option maxHeartbeats 1000000 in
theorem cloneI (A : Option Addr) (n c : Nat) (xs : List Int) (w : World) (HR : ReadsInt w .i64 A n xs) (hn : n ≤ 17592186044416) :
    Calls Try.prog 40 #[.slice A n c] w fun e w' => ∃ v, e = .returned v ∧ w'.ownsRow w.heap.size 3 1 v n (nums .i64 xs) ∧ Below w.heap.size w w' := by
  have HRR := Lib.hid HR
  have hbl := HR.1
  have h0 : A = none → n = 0 := fun e => by
    rcases Nat.eq_zero_or_pos n with h | h
    · exact h
    · obtain ⟨ad, e2, _⟩ := HR.2.2 h
      rw [e] at e2; cases e2
  clear HR
  cases A with
  | none =>
    have := h0 rfl
    subst this
    obtain rfl := List.length_eq_zero_iff.1 hbl
    clear h0
    have hnil : ∀ W, (binOp .eql 27 (.slice none 0 c) (.slice none 0 0)).run Try.prog W = .ok (.bool true) W := fun W => Lib.run_eql_slice_nil W 27 3 none 0 c 0 0 Try.underlying27
    go_enter Try.func40, Try.ntmps40
    go_wp2
    go_ret
    exact ⟨_, rfl, own_nil _ _ _ _, Below.refl _ _⟩
  | some ad =>
    clear h0
    have hnil : ∀ W, (binOp .eql 27 (.slice (some ad) n c) (.slice none 0 0)).run Try.prog W = .ok (.bool false) W := fun W => Lib.run_eql_slice_nil W 27 3 (some ad) n c 0 0 Try.underlying27
    go_enter Try.func40, Try.ntmps40
    go_wp2_with (at_builtin; refine print_append_row w.heap.size rfl _ _ 27 3 .i64 8 rfl Try.underlying27 info_int (by decide) _ [] xs (some ad) n c rfl rfl (by exact own_lit w w.heap.size 3 .i64 [] (Nat.le_refl _) (by decide)) (by exact HRR.out.below ((Below.refl _ w).alloc (Nat.le_refl _) _)) ((Below.refl _ w).alloc (Nat.le_refl _) _) (by simp) (by simp; omega) ?_)
    intro v1 w1 hown hB1 _ _
    obtain ⟨A1, c1, rfl, hR1⟩ := own_reads hown
    have HO := Lib.hid hown; have HB := Lib.hid hB1
    clear hown hB1 hR1
    have HL := Lib.hid hbl
    clear hbl
    go_wp2_with fail
    go_ret
    exact ⟨_, rfl, HO.out, HB.out⟩

/-- The least of the first k, with the first one. -/
def minTo (xs : List Int) : Nat → Int
  | 0 => rd xs 0
  | k + 1 => if rd xs (k : Int) < minTo xs k then rd xs (k : Int) else minTo xs k
set_option maxHeartbeats 1000000 in
theorem minI (A : Option Addr) (n c : Nat) (xs : List Int) (w : World) (HR : ReadsInt w .i64 A n xs) (hn : n ≤ 17592186044416) (h1 : 1 ≤ n) :
    Calls Try.prog 39 #[.slice A n c] w fun e w' => e = .returned (.int .i64 (minTo xs n)) ∧ w = w' := by
  have HRR := Lib.hid HR
  obtain ⟨ad, hA, hcell⟩ := ReadsInt.at_ HR 0 (by omega) (by omega)
  subst hA
  have hcell' : w.cell? ad = some (.int .i64 (rd xs 0)) := by simpa [Addr.add] using hcell
  clear hcell HR
  go_enter Try.func39, Try.ntmps39
  go_wp2_with fail
  go_loop [3, 4] (fun m i => ∃ (k : Nat) (x : Int), 1 ≤ k ∧ k ≤ n ∧ i = .int .i64 k ∧ m = .int .i64 x ∧ Hid (x = minTo xs k)) (fun _ i => n - (intOf i).toNat)
  case atStart => exact ⟨1, rd xs 0, by omega, h1, rfl, rfl, by show _ = _; simp [minTo]⟩
  case round =>
    obtain ⟨k, x, hk1, hk, rfl, rfl, HX⟩ := hrel
    by_cases hlt : k < n
    · obtain ⟨ad', hA, hc⟩ := ReadsInt.at_ HRR.out (k : Int) (by omega) (by omega)
      rw [Int.toNat_natCast] at hc
      cases hA
      have HN := Lib.hid (show minTo xs (k + 1) = (if rd xs (k : Int) < x then rd xs (k : Int) else x) from by rw [HX.out]; rfl)
      generalize rd xs (k : Int) = y at *
      go_wp2_with fail
      go_round
      case rel => exact ⟨k + 1, _, by omega, by omega, by go_num, rfl, HN.out.symm⟩
      case measure => simp [intOf]; omega
    · have hkn : k = n := by omega
      subst hkn
      go_wp2_with fail
      go_ret
      exact ⟨by rw [HX.out]; rfl, rfl⟩

/-- What writing has turned: the writer's blocks, and new ones. -/
structure Chg (w0 : World) (g : Nat) (v0 : Value) (w : World) (v : Value) : Prop where
  mods : Mods (g :: rows v0) w0 w
  own : v.ownBlock = v0.ownBlock ∨ ∃ b, v.ownBlock = some b ∧ w0.heap.size ≤ b
theorem Chg.refl (w : World) (g : Nat) (v : Value) : Chg w g v w v := ⟨Mods.refl _ _, .inl rfl⟩
theorem Chg.step {w0 w1 w2 : World} {g : Nat} {v0 v1 v2 : Value} (h : Chg w0 g v0 w1 v1) (hm : Mods (g :: rows v1) w1 w2) (ho : v2.ownBlock = v1.ownBlock ∨ ∃ b, v2.ownBlock = some b ∧ w1.heap.size ≤ b) : Chg w0 g v0 w2 v2 := by
  refine ⟨Mods.trans_new h.mods hm (fun r hr => ?_), ?_⟩
  · rcases List.mem_cons.1 hr with rfl | h1
    · exact .inl (by simp)
    · unfold rows at h1
      rcases h.own with e | ⟨b, e, hb⟩
      · rw [e] at h1; exact .inl (by simp [rows]; right; simpa using h1)
      · rw [e] at h1; simp at h1; exact .inr (by omega)
  · rcases ho with e | ⟨b, e, hb⟩
    · rw [e]; exact h.own
    · exact .inr ⟨b, e, Nat.le_trans h.mods.size hb⟩
theorem Chg.cell {w0 w : World} {g : Nat} {v0 v : Value} (h : Chg w0 g v0 w v) {ad : Addr} {x : Value} (hc : w0.cell? ad = some x) (hg : ad.block ≠ g) (hv : some ad.block ≠ v0.ownBlock) : w.cell? ad = some x :=
  (World.cell?_of_block (w := w0) (h.mods.block _ (World.block_lt_of_cell? w0 _ hc) (by simp [rows]; exact ⟨hg, fun e => hv e.symm⟩))).trans hc

set_option maxHeartbeats 1000000 in
theorem simply1 (g : Nat) (v : Value) (l : List Int) (A : Option Addr) (c : Nat) (x : Int) (w : World) (h : Wtr w g v l) (HR : ReadsInt w .i64 A 1 [x]) (hx : 0 ≤ x ∧ x < 256) (hl : l.length ≤ 1000000)
    (hA : ∀ ad, A = some ad → ad.block ≠ g ∧ some ad.block ≠ v.ownBlock) :
    Calls Try.prog 41 #[.pointer (some ⟨g, 0, none⟩), .slice A 1 c] w fun e w' => e = .returned (.tuple #[]) ∧ ∃ v', Wtr w' g v' (l ++ bitsOf 1 1 ++ bitsOf 0 1 ++ bitsOf 1 1 ++ bitsOf x 8) ∧ Chg w g v w' v' := by
  obtain ⟨ad, hAd, hcell0⟩ := ReadsInt.at_ HR 0 (by omega) (by omega)
  subst hAd
  have HC := Lib.hid (show w.cell? ad = some (.int .i64 x) from by simpa [Addr.add, rd] using hcell0)
  have H := Lib.hid h; have HA := Lib.hid (hA ad rfl)
  have hwf : (ad.block < w.heap.size) := World.block_lt_of_cell? w _ HC.out
  clear h HR hA hcell0
  go_enter Try.func41, Try.ntmps41
  go_wp2_with fail
  refine (w_bits g v l 1 1 w H.out (by omega) (by decide) (by omega)).mono ?_
  rintro e w1 ⟨rfl, v1, hW1, hM1, hv1⟩
  have HW1 := Lib.hid hW1; have HC1 := Lib.hid ((Chg.refl w g v).step hM1 hv1); clear hW1 hM1 hv1
  go_wp2_with fail
  refine (w_bits g v1 _ 0 1 w1 HW1.out (by omega) (by decide) (by simp [bitsOf_length]; omega)).mono ?_
  rintro e w2 ⟨rfl, v2, hW2, hM2, hv2⟩
  have HW2 := Lib.hid hW2; have HC2 := Lib.hid (HC1.out.step hM2 hv2); clear hW2 hM2 hv2
  go_wp2_with fail
  refine (w_bits g v2 _ 1 1 w2 HW2.out (by omega) (by decide) (by simp [bitsOf_length]; omega)).mono ?_
  rintro e w3 ⟨rfl, v3, hW3, hM3, hv3⟩
  have HW3 := Lib.hid hW3; have HC3 := Lib.hid (HC2.out.step hM3 hv3); clear hW3 hM3 hv3
  have hc3 := HC3.out.cell HC.out HA.out.1 HA.out.2
  go_wp2_with fail
  refine wp_loop_rounds 2 ?_
  rw [rounds_succ]
  go_wp2_with fail
  refine (w_bits g v3 _ x 8 w3 HW3.out (by omega) ⟨hx.1, by omega⟩ (by simp [bitsOf_length]; omega)).mono ?_
  rintro e w4 ⟨rfl, v4, hW4, hM4, hv4⟩
  have HW4 := Lib.hid hW4; have HC4 := Lib.hid (HC3.out.step hM4 hv4); clear hW4 hM4 hv4 hc3
  go_wp2_with fail
  rw [rounds_succ]
  go_wp2_with fail
  go_end0
  exact ⟨rfl, v4, HW4.out, HC4.out⟩

theorem order07 {os : List Int} (h : InOrder [0, 0, 0, 0, 0, 7] os) : os = [5] := by
  have hp : posList [0, 0, 0, 0, 0, 7] = [5] := by decide
  rw [InOrder, hp] at h
  have hl := h.2.length
  have hm := (h.2.mem 5).1 (by simp)
  match os, hl with
  | [x], _ => simp at hm; rw [hm]

set_option maxHeartbeats 2000000 in
theorem write07 (g B : Nat) (v : Value) (w : World) (h : Wtr w g v []) (HR : ReadsInt w .i64 (some ⟨B, 0, none⟩) 6 [0, 0, 0, 0, 0, 7]) :
    Calls Try.prog 24 #[.pointer (some ⟨g, 0, none⟩), .slice (some ⟨B, 0, none⟩) 6 6] w fun e w' => e = .returned (.bool true) ∧ ∃ v', Wtr w' g v' ([] ++ bitsOf 1 1 ++ bitsOf 0 1 ++ bitsOf 1 1 ++ bitsOf 5 8) ∧ Chg w g v w' v' := by
  have H := Lib.hid h; have HRR := Lib.hid HR
  have hgl : g < w.heap.size := blk_lt h.2.2.1
  have HCK := Lib.hid (show checkS [0, 0, 0, 0, 0, 7] = 0 from by decide)
  have HMN := Lib.hid (show minTo [0, 0, 0, 0, 0, 7] 6 = 0 from by decide)
  clear h HR
  go_enter Try.func24, Try.ntmps24
  go_wp2_with fail
  refine (order_any (some ⟨B, 0, none⟩) 6 6 [0, 0, 0, 0, 0, 7] w HRR.out (by omega) (by decide)).mono ?_
  rintro e w1 ⟨hB1, v1, os, rfl, hos, hown⟩
  have := order07 hos
  subst this
  obtain ⟨A1, c1, rfl, hr1⟩ := own_reads hown
  obtain ⟨ad1, hA1, hcell1⟩ := ReadsInt.at_ hr1 0 (by simp) (by simp)
  subst hA1
  have hlo := own_base hown ad1.block rfl
  have hhi := own_lt hown ad1.block rfl
  have HC1 := Lib.hid (show w1.cell? ad1 = some (.int .i64 5) from by simpa [Addr.add, rd] using hcell1)
  have HB1 := Lib.hid hB1; have HR1 := Lib.hid hr1; have HRR1 := Lib.hid (HRR.out.below hB1)
  have hz1 := hB1.size
  clear hB1 hos hown hr1 hcell1
  go_wp2_with fail
  refine (check_any (some ⟨B, 0, none⟩) 6 6 [0, 0, 0, 0, 0, 7] w1 HRR1.out (by omega)).mono ?_
  rintro e w' ⟨rfl, rfl⟩
  rw [HCK.out]
  go_wp2_with fail
  refine (minI (some ⟨B, 0, none⟩) 6 6 [0, 0, 0, 0, 0, 7] w1 HRR1.out (by omega) (by omega)).mono ?_
  rintro e w' ⟨rfl, rfl⟩
  rw [HMN.out]
  go_wp2_with fail
  refine (cloneI (some ⟨B, 0, none⟩) 6 6 [0, 0, 0, 0, 0, 7] w1 HRR1.out (by omega)).mono ?_
  rintro e w2 ⟨v2, rfl, hown2, hB2⟩
  obtain ⟨A2, c2, rfl, hr2⟩ := own_reads hown2
  obtain ⟨ad2, hA2, hcell2⟩ := ReadsInt.at_ hr2 5 (by simp) (by simp)
  subst hA2
  have hown2' := hown2
  obtain ⟨g2, c2', hv2, hg2⟩ := own_some2 hown2 (by decide)
  cases hv2
  have hc1 : w2.cell? ad1 = some (.int .i64 5) := pw_cell_below hB2 HC1.out
  obtain ⟨hc2, hf2⟩ := own_at hown2' 5 (by omega) (by omega)
  have hc2' : w2.cell? ⟨g2, 5, none⟩ = some (.int .i64 7) := by simpa [rd] using hc2
  have hf2' : w2.frozen? ⟨g2, 5, none⟩ = false := by simpa using hf2
  have HB2 := Lib.hid hB2
  have hz2 := hB2.size
  have hmS : Mods [g2] w2 (w2.setCell ⟨g2, 5, none⟩ (.int .i64 1)) := (Mods.refl _ _).setCell (by simp) _
  have hc1' : (w2.setCell ⟨g2, 5, none⟩ (.int .i64 1)).cell? ad1 = some (.int .i64 5) :=
    (World.cell?_of_block (w := w2) (hmS.block _ (World.block_lt_of_cell? w2 _ hc1) (by simp; omega))).trans hc1
  have hM12 : Mods [] w1 w2 := Mods.of_below hB2 []
  have hM01 : Mods [] w w1 := Mods.of_below HB1.out []
  have hb13 : Hid (Mods [] w (w2.setCell ⟨g2, 5, none⟩ (.int .i64 1))) := Lib.hid (Mods.trans_new (hM01.trans hM12) hmS (by simp; omega))
  have hR3 := Lib.hid (ReadsInt.mods (ReadsInt.mods HR1.out hM12 (by simp)) hmS (fun ad h => by cases h; simp; omega))
  have HMS := Lib.hid hmS
  clear hB2 hown2 hown2' hr2 hcell2 hc2 hf2 hM12 hM01 hmS
  go_wp2_with fail
  have hW3 := H.out.mods hb13.out (by simp) (by simp)
  have hvb : ∀ b, v.ownBlock = some b → b < w.heap.size := fun b hb => own_lt H.out.2.2.2 b hb
  refine (simply1 g v [] (some ad1) c1 5 _ hW3 hR3.out (by decide) (by simp) (fun ad h => by
    cases h
    exact ⟨by omega, fun e => by have := hvb _ e.symm; omega⟩)).mono ?_
  rintro e w4 ⟨rfl, v', hW4, hC4⟩
  have HW4 := Lib.hid hW4
  have HC4 := Lib.hid (show Chg w g v w4 v' from ⟨Mods.trans_new (hb13.out.mono (by simp)) hC4.mods (fun r hr => .inl hr), by
    rcases hC4.own with e | ⟨b, e, hb⟩
    · exact .inl e
    · exact .inr ⟨b, e, Nat.le_trans hb13.out.size hb⟩⟩)
  clear hW3 hvb hW4 hC4 hc1 hc2' hf2' hc1'
  go_wp2_with fail
  go_ret
  exact ⟨rfl, v', HW4.out, HC4.out⟩
end Go.Proofs.Ytcjfipkbjcpbgaa
