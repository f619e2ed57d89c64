/- What package bitout does. -/
import Derived.Test.YtfeloicmkcfinaaDoorTypes
import Derived.Test.YtfeloicmkcfinaaDoorBitsQ
namespace Go.Proofs.YtfeloicmkcfinaaDoor
open Go.RowKit
open Go.Proofs.YtfeloicmkcfinaaDoorW.PrintWords

/-- A writer: block g; its row v; the bits. -/
def Wtr (w : World) (g : Nat) (v : Value) (l : List Int) : Prop :=
  l.length ≤ 140737488351232 ∧ IsBits l ∧ w.heap[g]? = some (.cells #[v, .int .i64 l.length] 65 (0, 0)) ∧ w.ownsRow (g + 1) 5 1 v ((l.length + 7) / 8) (nums .u8 (packB l))

set_option maxHeartbeats 400000 in
theorem w_new (w : World) : Calls Tryd.prog 10 #[] w fun e w' => e = .returned (.pointer (some ⟨w.heap.size, 0, none⟩)) ∧ Wtr w' w.heap.size (.slice none 0 0) [] ∧ Below w.heap.size w w' := by
  go_enter Tryd.func10, Tryd.ntmps10
  go_wp2
  go_ret
  refine ⟨rfl, ⟨by simp, fun x hx => by simp at hx, blk_alloc _, own_nil _ _ _ _⟩, (Below.refl _ _).alloc (Nat.le_refl _) _⟩

def rows (v : Value) : List Nat := v.ownBlock.toList
theorem or_u8 (x b : Int) (r : Nat) (h0 : 0 ≤ x) (h1 : x < 2 ^ r) (hb : 0 ≤ b ∧ b ≤ 1) (hr : r < 8) : bits .or .u8 x (b * 2 ^ r) = x + b * 2 ^ r := by
  obtain ⟨a, rfl⟩ := Int.eq_ofNat_of_zero_le h0
  obtain ⟨c, rfl⟩ := Int.eq_ofNat_of_zero_le hb.1
  have hc : (c : Int) * 2 ^ r = ((c * 2 ^ r : Nat) : Int) := by simp
  have ha : a < 2 ^ r := by exact_mod_cast h1
  have hp : 2 ^ r ≤ 2 ^ 7 := Nat.pow_le_pow_right (by decide) (by omega)
  have h2 : c * 2 ^ r ≤ 1 * 2 ^ r := Nat.mul_le_mul_right _ (by omega)
  rw [hc]
  have h := (bits_nat .u8 8 (by decide) (fun n h0 h1 => by simp [IntKind.wrap, IntKind.bits, IntKind.signed]; omega) a (c * 2 ^ r) (by omega) (by omega)).2
  rw [h, ← Nat.shiftLeft_eq, or_shift a c r ha]
  simp [Nat.shiftLeft_eq]

theorem and_one (x : Int) (hx : 0 ≤ x ∧ x ≤ 4294967295) : bits BinOp.and .u32 x 1 = x % 2 :=
  bits_mask .u32 32 (by decide) (fun n h0 h1 => by simp [IntKind.wrap, IntKind.bits, IntKind.signed]; omega) 1 (by omega) x hx.1 (by omega)
theorem own_some2 {w : World} {base n size : Nat} {e : TypeId} {v : Value} {xs : List Value} (h : w.ownsRow base e size v n xs) (hn : 0 < n) : ∃ g c, v = .slice (some ⟨g, 0, none⟩) n c ∧ base ≤ g := by
  rcases h.2 with ⟨_, h0⟩ | ⟨g, cap, cur, rfl, hb, _⟩
  · omega
  · exact ⟨g, cap, rfl, hb⟩

set_option maxRecDepth 8000 in
set_option maxHeartbeats 1000000 in
theorem w_one (g : Nat) (v : Value) (l : List Int) (x : Int) (w : World) (h : Wtr w g v l) (hx : 0 ≤ x ∧ x ≤ 4294967295) (hl : l.length < 140737488351232) :
    Calls Tryd.prog 38 #[.pointer (some ⟨g, 0, none⟩), .int .u32 x] w fun e w' => e = .returned (.tuple #[]) ∧ ∃ v', Wtr w' g v' (l ++ [x % 2]) ∧ Mods (g :: rows v) w w' ∧ (v'.ownBlock = v.ownBlock ∨ ∃ b, v'.ownBlock = some b ∧ w.heap.size ≤ b) := by
  obtain ⟨_, hbits, hk, ho⟩ := h
  have hc0 : w.cell? ⟨g, 0, none⟩ = some v := cell_blk hk 0
  have hc1 : w.cell? ⟨g, 1, none⟩ = some (.int .i64 l.length) := cell_blk hk 1
  have hf0 := free_blk hk 0
  have hf1 := free_blk hk 1
  by_cases hr : l.length % 8 = 0
  · have hrb : ((l.length : Int) % 8 == 0) = true := by simp; omega
    have hp0 := packB_length l
    have e0 : (l.length + 7) / 8 = (packB l).length := hp0.symm
    rw [e0] at ho
    have HO := Lib.hid ho; have HK := Lib.hid hk; have HB := Lib.hid hbits; have HP0 := Lib.hid hp0
    clear ho hk hbits e0 hp0
    go_enter Tryd.func38, Tryd.ntmps38
    go_wp2_with (at_builtin; refine print_append_num (g + 1) rfl _ _ 23 5 .u8 1 rfl Tryd.underlying23 info_u8 (by decide) _ (packB l) 0 rfl rfl (by exact HO.out) (Below.refl (g + 1) w) (by have := blk_lt HK.out; omega) (by rw [HP0.out]; omega) ?_)
    intro v1 w1 hown hB1 hgr hat
    obtain ⟨b1, c1, hv1, hg1⟩ := own_some2 hown (by omega)
    have hbk1 := (hB1.block g (by omega)).trans HK.out
    have hM1 : Mods (g :: rows v) w w1 := (Mods.refl (g :: rows v) w).grown hgr (fun k hk => .inl (by simp [rows, hk]))
    have hf10 := free_blk hbk1 0
    have hc10 : w1.cell? ⟨g, 0, none⟩ = some v := cell_blk hbk1 0
    have hbk2 := blk_set hbk1 0 v1
    have ho2 : (w1.setCell ⟨g, 0, none⟩ v1).ownsRow (g + 1) 5 1 v1 ((packB l).length + 1) (nums .u8 (packB l ++ [0])) := by
      refine own_setCell hown (fun h => ?_) v1
      have := own_base hown g h.symm
      omega
    have hM2 := hM1.setCell (p := ⟨g, 0, none⟩) (.inl (by simp)) v1
    have hat' : v1.ownBlock = v.ownBlock ∨ ∃ b, v1.ownBlock = some b ∧ w.heap.size ≤ b := hat
    subst hv1
    have HM2 := Lib.hid hM2; have HO2 := Lib.hid ho2; have HK2 := Lib.hid hbk2; have HAT := Lib.hid hat'
    clear hown hB1 hgr hat hat' hbk1 hM1 hbk2 ho2 hM2 hc0 hc1 hf0 hf1
    have hand : bits BinOp.and .u32 x 1 = x % 2 := and_one x hx
    go_wp2_with fail
    generalize w1.setCell ⟨g, 0, none⟩ (.slice (some ⟨b1, 0, none⟩) ((packB l).length + 1) c1) = w2 at *
    have hc20 : w2.cell? ⟨g, 0, none⟩ = some (.slice (some ⟨b1, 0, none⟩) ((packB l).length + 1) c1) := cell_blk HK2.out 0
    have hc21 : w2.cell? ⟨g, 1, none⟩ = some (.int .i64 l.length) := cell_blk HK2.out 1
    have hf21 := free_blk HK2.out 1
    have hp1 := HP0.out
    obtain ⟨hcx, hfx⟩ := own_at HO2.out ((l.length / 8 : Nat) : Int) (by omega) (by rw [hp1]; omega)
    rw [Int.toNat_natCast] at hcx hfx
    obtain ⟨q, hq⟩ : ∃ q : Nat, l.length / 8 = q := ⟨_, rfl⟩
    rw [hq] at hcx hfx
    have hq1 : (l.length : Int) / 8 = (q : Int) := by omega
    have hq2 : (q : Int) < (((packB l).length + 1 : Nat) : Int) := by rw [hp1]; omega
    have hq3 : ((q : Int)).toNat = q := by omega
    have hr0 : (0 : Int) ≤ (l.length : Int) % 8 := by omega
    have HQ := Lib.hid hq
    obtain ⟨yy, hyy⟩ : ∃ yy, bits BinOp.or .u8 (rd (packB l ++ [0]) (q : Int)) (x % 2 % 256) = yy := ⟨_, rfl⟩
    have HYY := Lib.hid hyy
    clear hyy
    have HSET : Hid ((packB l ++ [0]).set (l.length / 8) yy = packB (l ++ [x % 2])) := by
      have e1 : rd (packB l ++ [0]) (q : Int) = 0 := by
        unfold rd
        rw [Int.toNat_natCast, List.getD_eq_getElem?_getD, List.getElem?_append_right (by rw [hp1]; omega), show q - (packB l).length = 0 from by rw [hp1]; omega]; rfl
      have e2 : bits BinOp.or .u8 0 (x % 2 * 2 ^ 0) = 0 + x % 2 * 2 ^ 0 := or_u8 0 (x % 2) 0 (by omega) (by decide) (by omega) (by omega)
      show (packB l ++ [0]).set (l.length / 8) yy = packB (l ++ [x % 2])
      rw [← HYY.out, e1, show x % 2 % 256 = x % 2 * 2 ^ 0 from by omega, e2, show (0 : Int) + x % 2 * 2 ^ 0 = x % 2 from by omega]
      exact packB_new l _ hr
    have HRB : Hid ((⟨b1, q, none⟩ : Addr).block ∈ g :: rows v ∨ w.heap.size ≤ (⟨b1, q, none⟩ : Addr).block) := by
      rcases HAT.out with h | ⟨b, h, hb⟩
      · left; rw [rows, ← h]; simp [Value.ownBlock]
      · right; have : b1 = b := by simpa [Value.ownBlock] using h
        show w.heap.size ≤ b1; omega
    clear hp1 hq
    go_region
    rw [show bits BinOp.or .u8 (rd (packB l ++ [0]) (q : Int)) (x % 2 % 256) = yy from by rw [← HYY.out]]
    have hO3 := (own_store HO2.out (q : Int) yy).1
    rw [Int.toNat_natCast, ← HQ.out, HSET.out] at hO3
    rw [HQ.out] at hO3
    have hg1b : g ≠ b1 := by omega
    have hk3 : (w2.setCell ⟨b1, q, none⟩ (.int .u8 yy)).heap[g]? = some (.cells #[.slice (some ⟨b1, 0, none⟩) ((packB l).length + 1) c1, .int .i64 l.length] 65 (0, 0)) := by
      exact blk_far HK2.out (p := ⟨b1, q, none⟩) hg1b _
    have hM3 := HM2.out.setCell (p := ⟨b1, q, none⟩) (HRB.out) (.int .u8 yy)
    have HO3 := Lib.hid hO3; have HK3 := Lib.hid hk3; have HM3 := Lib.hid hM3
    clear hO3 hk3 hM3 hc20 hc21 hf21 hcx hfx
    generalize w2.setCell ⟨b1, q, none⟩ (.int .u8 yy) = w3 at *
    have hc31 : w3.cell? ⟨g, 1, none⟩ = some (.int .i64 l.length) := cell_blk HK3.out 1
    have hf31 := free_blk HK3.out 1
    go_wp2_with fail
    have hk4 := blk_set HK3.out 1 (.int .i64 ((l.length : Int) + 1))
    have ho4 : (w3.setCell ⟨g, 1, none⟩ (.int .i64 ((l.length : Int) + 1))).ownsRow (g + 1) 5 1 (.slice (some ⟨b1, 0, none⟩) ((packB l).length + 1) c1) ((packB l).length + 1) (nums .u8 (packB (l ++ [x % 2]))) := by
      refine own_setCell HO3.out (fun h => ?_) _
      have := own_base HO3.out g h.symm
      omega
    have hM4 := HM3.out.setCell (p := ⟨g, 1, none⟩) (.inl (by simp)) (.int .i64 ((l.length : Int) + 1))
    go_end0
    refine ⟨rfl, _, ⟨by simp; omega, HB.out.app (by intro z hz; simp at hz; omega), ?_, ?_⟩, hM4.drew, HAT.out⟩
    · show (w3.setCell ⟨g, 1, none⟩ (.int .i64 ((l.length : Int) + 1))).heap[g]? = _
      rw [hk4, List.length_append]; rfl
    · have e : ((l ++ [x % 2]).length + 7) / 8 = (packB l).length + 1 := by rw [List.length_append]; have := HP0.out; simp; omega
      rw [e]; exact ho4.drew
  · have hrb : ((l.length : Int) % 8 == 0) = false := by simp; omega
    have hp0 := packB_length l
    obtain ⟨b1, c1, hv1, hg1⟩ := own_some2 ho (by omega)
    have e0 : (l.length + 7) / 8 = (packB l).length := hp0.symm
    rw [e0] at ho hv1
    have hM2 : Mods (g :: rows v) w w := Mods.refl _ _
    have hv0 : rows v = [b1] := by rw [hv1]; rfl
    rw [hv0] at hM2
    rw [hv0]
    subst hv1
    have HO2 := Lib.hid ho; have HK2 := Lib.hid hk; have HB := Lib.hid hbits; have HP0 := Lib.hid hp0; have HM2 := Lib.hid hM2
    clear ho hk hbits e0 hp0 hM2 hv0 hc0 hc1 hf0 hf1
    have hand : bits BinOp.and .u32 x 1 = x % 2 := and_one x hx
    obtain ⟨w2, hw2⟩ : ∃ w2 : World, w2 = w := ⟨_, rfl⟩
    rw [← hw2] at HO2 HK2
    have HM2 : Hid (Mods [g, b1] w w2) := by rw [hw2]; exact HM2.out
    suffices hs : Calls Tryd.prog 38 #[.pointer (some ⟨g, 0, none⟩), .int .u32 x] w2 fun e w' => e = .returned (.tuple #[]) ∧ ∃ v', Wtr w' g v' (l ++ [x % 2]) ∧ Mods [g, b1] w w' ∧ (v'.ownBlock = (Value.slice (some ⟨b1, 0, none⟩) (packB l).length c1).ownBlock ∨ ∃ b, v'.ownBlock = some b ∧ w.heap.size ≤ b) by rw [← hw2]; rw [← hw2] at hs; exact hs
    clear hw2
    have hc10 : w2.cell? ⟨g, 1, none⟩ = some (.int .i64 l.length) := cell_blk HK2.out 1
    go_enter Tryd.func38, Tryd.ntmps38
    go_wp2_with fail
    have hc20 : w2.cell? ⟨g, 0, none⟩ = some (.slice (some ⟨b1, 0, none⟩) (packB l).length c1) := cell_blk HK2.out 0
    have hc21 : w2.cell? ⟨g, 1, none⟩ = some (.int .i64 l.length) := cell_blk HK2.out 1
    have hf21 := free_blk HK2.out 1
    have hp1 := HP0.out
    obtain ⟨hcx, hfx⟩ := own_at HO2.out ((l.length / 8 : Nat) : Int) (by omega) (by rw [hp1]; omega)
    rw [Int.toNat_natCast] at hcx hfx
    obtain ⟨q, hq⟩ : ∃ q : Nat, l.length / 8 = q := ⟨_, rfl⟩
    rw [hq] at hcx hfx
    have hq1 : (l.length : Int) / 8 = (q : Int) := by omega
    have hq2 : (q : Int) < (((packB l).length : Nat) : Int) := by rw [hp1]; omega
    have hq3 : ((q : Int)).toNat = q := by omega
    have hr0 : (0 : Int) ≤ (l.length : Int) % 8 := by omega
    have HQ := Lib.hid hq
    obtain ⟨yy, hyy⟩ : ∃ yy, bits BinOp.or .u8 (rd (packB l) (q : Int)) (x % 2 * 2 ^ (l.length % 8) % 256) = yy := ⟨_, rfl⟩
    have HYY := Lib.hid hyy
    clear hyy
    have HSET : Hid ((packB l).set (l.length / 8) yy = packB (l ++ [x % 2])) := by
      have e1 : rd (packB l) (q : Int) = byteAt l (l.length / 8) := by
        unfold rd
        rw [Int.toNat_natCast, List.getD_eq_getElem?_getD, packB_get _ _ (by omega), hq]; rfl
      have e2 : bits BinOp.or .u8 (byteAt l (l.length / 8)) (x % 2 * 2 ^ (l.length % 8)) = byteAt l (l.length / 8) + x % 2 * 2 ^ (l.length % 8) := or_u8 _ (x % 2) _ (byteAt_bounds HB.out _).1 (byteAt_low HB.out) (by omega) (by omega)
      have e3 : x % 2 * 2 ^ (l.length % 8) % 256 = x % 2 * 2 ^ (l.length % 8) := by
        have h1 : (2 : Int) ^ (l.length % 8) ≤ 2 ^ 7 := by exact_mod_cast Nat.pow_le_pow_right (by decide) (by omega)
        have h2 : (0 : Int) < 2 ^ (l.length % 8) := by exact_mod_cast Nat.two_pow_pos _
        have h3 : x % 2 = 0 ∨ x % 2 = 1 := by omega
        rcases h3 with h3 | h3 <;> rw [h3] <;> omega
      show (packB l).set (l.length / 8) yy = packB (l ++ [x % 2])
      rw [← HYY.out, e1, e3, e2]
      exact packB_more l _ hr
    have HRB : Hid ((⟨b1, q, none⟩ : Addr).block ∈ [g, b1] ∨ w.heap.size ≤ (⟨b1, q, none⟩ : Addr).block) := .inl (by simp)
    clear hp1 hq
    go_region
    rw [show bits BinOp.or .u8 (rd (packB l) (q : Int)) (x % 2 * 2 ^ (l.length % 8) % 256) = yy from HYY.out]
    have hO3 := (own_store HO2.out (q : Int) yy).1
    rw [Int.toNat_natCast, ← HQ.out, HSET.out] at hO3
    rw [HQ.out] at hO3
    have hg1b : g ≠ b1 := by omega
    have hk3 : (w2.setCell ⟨b1, q, none⟩ (.int .u8 yy)).heap[g]? = some (.cells #[.slice (some ⟨b1, 0, none⟩) (packB l).length c1, .int .i64 l.length] 65 (0, 0)) := by
      exact blk_far HK2.out (p := ⟨b1, q, none⟩) hg1b _
    have hM3 := HM2.out.setCell (p := ⟨b1, q, none⟩) (HRB.out) (.int .u8 yy)
    have HO3 := Lib.hid hO3; have HK3 := Lib.hid hk3; have HM3 := Lib.hid hM3
    clear hO3 hk3 hM3 hc20 hc21 hf21 hcx hfx
    generalize w2.setCell ⟨b1, q, none⟩ (.int .u8 yy) = w3 at *
    have hc31 : w3.cell? ⟨g, 1, none⟩ = some (.int .i64 l.length) := cell_blk HK3.out 1
    have hf31 := free_blk HK3.out 1
    go_wp2_with fail
    have hk4 := blk_set HK3.out 1 (.int .i64 ((l.length : Int) + 1))
    have ho4 : (w3.setCell ⟨g, 1, none⟩ (.int .i64 ((l.length : Int) + 1))).ownsRow (g + 1) 5 1 (.slice (some ⟨b1, 0, none⟩) (packB l).length c1) (packB l).length (nums .u8 (packB (l ++ [x % 2]))) := by
      refine own_setCell HO3.out (fun h => ?_) _
      have := own_base HO3.out g h.symm
      omega
    have hM4 := HM3.out.setCell (p := ⟨g, 1, none⟩) (.inl (by simp)) (.int .i64 ((l.length : Int) + 1))
    go_end0
    refine ⟨rfl, _, ⟨by simp; omega, HB.out.app (by intro z hz; simp at hz; omega), ?_, ?_⟩, hM4.drew, .inl rfl⟩
    · show (w3.setCell ⟨g, 1, none⟩ (.int .i64 ((l.length : Int) + 1))).heap[g]? = _
      rw [hk4, List.length_append]; rfl
    · have e : ((l ++ [x % 2]).length + 7) / 8 = (packB l).length := by rw [List.length_append]; have := HP0.out; simp; omega
      rw [e]; exact ho4.drew

theorem Wtr.mods {S : List Nat} {w w' : World} {g : Nat} {v : Value} {l : List Int} (h : Wtr w g v l) (hm : Mods S w w') (hg : g ∉ S) (hv : ∀ b, v.ownBlock = some b → b ∉ S) : Wtr w' g v l := by
  obtain ⟨h1, h2, hk, ho⟩ := h
  exact ⟨h1, h2, hm.blk hk hg, own_move ho (fun k hk => hm.block k (own_lt ho k hk) (hv k hk))⟩
theorem Wtr.drewN {w : World} {g : Nat} {v : Value} {l : List Int} (h : Wtr w g v l) (n : Nat) : Wtr (w.drewN n) g v l :=
  h.mods (S := []) ((Mods.refl [] w).drewN n) (by simp) (by simp)

set_option maxRecDepth 8000 in
set_option maxHeartbeats 1000000 in
theorem w_bits (g : Nat) (v : Value) (l : List Int) (x : Int) (n : Nat) (w : World) (h : Wtr w g v l) (hn : n ≤ 32) (hx : 0 ≤ x ∧ x < 2 ^ n) (hl : l.length + n ≤ 140737488351232) :
    Calls Tryd.prog 25 #[.pointer (some ⟨g, 0, none⟩), .int .u32 x, .int .i64 n] w fun e w' => e = .returned (.bool true) ∧ ∃ v', Wtr w' g v' (l ++ bitsOf x n) ∧ Mods (g :: rows v) w w' ∧ (v'.ownBlock = v.ownBlock ∨ ∃ b, v'.ownBlock = some b ∧ w.heap.size ≤ b) := by
  have H := Lib.hid h
  have hp : (2 : Int) ^ n ≤ 2 ^ 32 := by exact_mod_cast Nat.pow_le_pow_right (by decide) hn
  have hxw : x < 4294967296 := by omega
  have hd : x / 2 ^ n = 0 := Int.ediv_eq_zero_of_lt hx.1 hx.2
  have hd2 : (x / 2 ^ n != 0) = false := by rw [hd]; rfl
  have HX := Lib.hid hx.2
  have hx0 := hx.1
  have hd3 : decide ((n : Int) < 0) = false := by simp
  have hd4 : decide (32 < (n : Int)) = false := by simp; omega
  clear h hp hx hd
  go_enter Tryd.func25, Tryd.ntmps25
  go_wp2
  go_loopw [7, 26] (fun _ i wr => ∃ k : Nat, k ≤ n ∧ i = .int .i64 k ∧ Hid (∃ v', Wtr wr g v' (l ++ bitsOf x k) ∧ Mods (g :: rows v) w wr ∧ (v'.ownBlock = v.ownBlock ∨ ∃ b, v'.ownBlock = some b ∧ w.heap.size ≤ b))) (fun _ i _ => n - (intOf i).toNat)
  case atStart => exact ⟨0, by omega, rfl, v, by rw [show bitsOf x 0 = [] from rfl, List.append_nil]; exact H.out, Mods.refl _ _, .inl rfl⟩
  case round =>
    obtain ⟨k, hk, rfl, HV⟩ := hrel
    by_cases hlt : k < n
    · have hq0 : 0 ≤ x / 2 ^ k := Int.ediv_nonneg hx0 (by exact_mod_cast Nat.zero_le _)
      have hq1 : x / 2 ^ k ≤ x := Int.ediv_le_self _ hx0
      obtain ⟨v1, hv1, hm1, ha1⟩ := HV.out
      have HV1 := Lib.hid hv1; have HM1 := Lib.hid hm1; have HA1 := Lib.hid ha1
      clear hv1 hm1 ha1 HV
      go_wp2_with fail
      refine (w_one g v1 (l ++ bitsOf x k) (x / 2 ^ k) wr HV1.out ⟨hq0, by omega⟩ (by rw [List.length_append, bitsOf_length]; omega)).mono ?_
      rintro e w2 ⟨rfl, v2, hv2, hm2, ha2⟩
      have HX2 : Hid (∃ v', Wtr w2 g v' (l ++ bitsOf x (k + 1)) ∧ Mods (g :: rows v) w w2 ∧ (v'.ownBlock = v.ownBlock ∨ ∃ b, v'.ownBlock = some b ∧ w.heap.size ≤ b)) := by
        refine ⟨v2, by rw [bitsOf_succ, ← List.append_assoc]; exact hv2, HM1.out.trans_new hm2 (fun r hr => ?_), ?_⟩
        · rcases List.mem_cons.1 hr with rfl | hr
          · exact .inl (by simp)
          · have hr' : v1.ownBlock = some r := by simpa [rows] using hr
            rcases HA1.out with h | ⟨b, h, hb⟩
            · exact .inl (by simp [rows, ← h, hr'])
            · rw [hr'] at h; cases h; exact .inr hb
        · rcases ha2 with h | ⟨b, h, hb⟩
          · rw [h]; exact HA1.out
          · exact .inr ⟨b, h, by have := HM1.out.size; omega⟩
      clear hv2 hm2 ha2
      go_wp2_with fail
      go_roundw
      case rel => exact ⟨k + 1, by omega, by go_num, HX2.out⟩
      case measure => simp [intOf]; omega
    · obtain rfl : k = n := by omega
      go_wp2_with fail
      go_ret
      exact ⟨rfl, HV.out⟩

set_option maxHeartbeats 400000 in
theorem w_len (g : Nat) (v : Value) (l : List Int) (w : World) (h : Wtr w g v l) :
    Calls Tryd.prog 12 #[.pointer (some ⟨g, 0, none⟩)] w fun e w' => e = .returned (.int .i64 l.length) ∧ w = w' := by
  obtain ⟨_, _, hk, _⟩ := h
  have hc1 : w.cell? ⟨g, 1, none⟩ = some (.int .i64 l.length) := cell_blk hk 1
  clear hk
  go_enter Tryd.func12, Tryd.ntmps12
  go_wp2
  go_ret
  exact ⟨rfl, rfl⟩

end Go.Proofs.YtfeloicmkcfinaaDoor
