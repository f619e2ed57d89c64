/- What package bitout does. -/
import Derived.Test.YtbljoihnjhllhaaLensFlat4
import Derived.Test.YtbljoihnjhllhaaLensFlat1
import Derived.Test.YtbljoihnjhllhaaChecked
namespace Go.Proofs.Ytbljoihnjhllhaa
open Go.RowKit
open Go.Proofs.YtbljoihnjhllhaaW.PrintWords

/-- A writer: block g; its row v; the bits. -/
def Wtr (w : World) (g : Nat) (v : Value) (l : List Int) : Prop :=
  l.length ≤ 140737488351232 ∧ IsBits l ∧ w.heap[g]? = some (.cells #[v, .int .i64 l.length] 48 (0, 0)) ∧ w.ownsRow (g + 1) 5 1 v ((l.length + 7) / 8) (nums .u8 (packB l))

set_option maxHeartbeats 400000 in
theorem w_new (w : World) : Calls Try.prog 6 #[] w fun e w' => e = .returned (.pointer (some ⟨w.heap.size, 0, none⟩)) ∧ Wtr w' w.heap.size (.slice none 0 0) [] ∧ Below w.heap.size w w' := by
  go_enter Try.func6, Try.ntmps6
  go_wp2
  go_ret
  refine ⟨rfl, ⟨by simp, fun x hx => by simp at hx, blk_alloc _, own_nil _ _ _ _⟩, (Below.refl _ _).alloc (Nat.le_refl _) _⟩

def rows (v : Value) : List Nat := v.ownBlock.toList
theorem or_u8 (x b : Int) (r : Nat) (h0 : 0 ≤ x) (h1 : x < 2 ^ r) (hb : 0 ≤ b ∧ b ≤ 1) (hr : r < 8) : bits .or .u8 x (b * 2 ^ r) = x + b * 2 ^ r := by
  obtain ⟨a, rfl⟩ := Int.eq_ofNat_of_zero_le h0
  obtain ⟨c, rfl⟩ := Int.eq_ofNat_of_zero_le hb.1
  have hc : (c : Int) * 2 ^ r = ((c * 2 ^ r : Nat) : Int) := by simp
  have ha : a < 2 ^ r := by exact_mod_cast h1
  have hp : 2 ^ r ≤ 2 ^ 7 := Nat.pow_le_pow_right (by decide) (by omega)
  have h2 : c * 2 ^ r ≤ 1 * 2 ^ r := Nat.mul_le_mul_right _ (by omega)
  rw [hc]
  have h := (bits_nat .u8 8 (by decide) (fun n h0 h1 => by simp [IntKind.wrap, IntKind.bits, IntKind.signed]; omega) a (c * 2 ^ r) (by omega) (by omega)).2
  rw [h, ← Nat.shiftLeft_eq, or_shift a c r ha]
  simp [Nat.shiftLeft_eq]

theorem and_one (x : Int) (hx : 0 ≤ x ∧ x ≤ 4294967295) : bits BinOp.and .u32 x 1 = x % 2 :=
  bits_mask .u32 32 (by decide) (fun n h0 h1 => by simp [IntKind.wrap, IntKind.bits, IntKind.signed]; omega) 1 (by omega) x hx.1 (by omega)
theorem own_some2 {w : World} {base n size : Nat} {e : TypeId} {v : Value} {xs : List Value} (h : w.ownsRow base e size v n xs) (hn : 0 < n) : ∃ g c, v = .slice (some ⟨g, 0, none⟩) n c ∧ base ≤ g := by
  rcases h.2 with ⟨_, h0⟩ | ⟨g, cap, cur, rfl, hb, _⟩
  · omega
  · exact ⟨g, cap, rfl, hb⟩

set_option maxRecDepth 8000 in
set_option maxHeartbeats 1000000 in
theorem w_one (g : Nat) (v : Value) (l : List Int) (x : Int) (w : World) (h : Wtr w g v l) (hx : 0 ≤ x ∧ x ≤ 4294967295) (hl : l.length < 140737488351232) :
    Calls Try.prog 23 #[.pointer (some ⟨g, 0, none⟩), .int .u32 x] w fun e w' => e = .returned (.tuple #[]) ∧ ∃ v', Wtr w' g v' (l ++ [x % 2]) ∧ Mods (g :: rows v) w w' ∧ (v'.ownBlock = v.ownBlock ∨ ∃ b, v'.ownBlock = some b ∧ w.heap.size ≤ b) := by
  obtain ⟨_, hbits, hk, ho⟩ := h
  have hc0 : w.cell? ⟨g, 0, none⟩ = some v := cell_blk hk 0
  have hc1 : w.cell? ⟨g, 1, none⟩ = some (.int .i64 l.length) := cell_blk hk 1
  have hf0 := free_blk hk 0
  have hf1 := free_blk hk 1
  by_cases hr : l.length % 8 = 0
  · have hrb : ((l.length : Int) % 8 == 0) = true := by simp; omega
    have hp0 := packB_length l
    have e0 : (l.length + 7) / 8 = (packB l).length := hp0.symm
    rw [e0] at ho
    have HO := Lib.hid ho; have HK := Lib.hid hk; have HB := Lib.hid hbits; have HP0 := Lib.hid hp0
    clear ho hk hbits e0 hp0
    go_enter Try.func23, Try.ntmps23
    go_wp2_with (at_builtin; refine print_append_num (g + 1) rfl _ _ 34 5 .u8 1 rfl Try.underlying34 info_u8 (by decide) _ (packB l) 0 rfl rfl (by exact HO.out) (Below.refl (g + 1) w) (by have := blk_lt HK.out; omega) (by rw [HP0.out]; omega) ?_)
    intro v1 w1 hown hB1 hgr hat
    obtain ⟨b1, c1, hv1, hg1⟩ := own_some2 hown (by omega)
    have hbk1 := (hB1.block g (by omega)).trans HK.out
    have hM1 : Mods (g :: rows v) w w1 := (Mods.refl (g :: rows v) w).grown hgr (fun k hk => .inl (by simp [rows, hk]))
    have hf10 := free_blk hbk1 0
    have hc10 : w1.cell? ⟨g, 0, none⟩ = some v := cell_blk hbk1 0
    have hbk2 := blk_set hbk1 0 v1
    have ho2 : (w1.setCell ⟨g, 0, none⟩ v1).ownsRow (g + 1) 5 1 v1 ((packB l).length + 1) (nums .u8 (packB l ++ [0])) := by
      refine own_setCell hown (fun h => ?_) v1
      have := own_base hown g h.symm
      omega
    have hM2 := hM1.setCell (p := ⟨g, 0, none⟩) (.inl (by simp)) v1
    have hat' : v1.ownBlock = v.ownBlock ∨ ∃ b, v1.ownBlock = some b ∧ w.heap.size ≤ b := hat
    subst hv1
    have HM2 := Lib.hid hM2; have HO2 := Lib.hid ho2; have HK2 := Lib.hid hbk2; have HAT := Lib.hid hat'
    clear hown hB1 hgr hat hat' hbk1 hM1 hbk2 ho2 hM2 hc0 hc1 hf0 hf1
    have hand : bits BinOp.and .u32 x 1 = x % 2 := and_one x hx
    go_wp2_with fail
    generalize w1.setCell ⟨g, 0, none⟩ (.slice (some ⟨b1, 0, none⟩) ((packB l).length + 1) c1) = w2 at *
    have hc20 : w2.cell? ⟨g, 0, none⟩ = some (.slice (some ⟨b1, 0, none⟩) ((packB l).length + 1) c1) := cell_blk HK2.out 0
    have hc21 : w2.cell? ⟨g, 1, none⟩ = some (.int .i64 l.length) := cell_blk HK2.out 1
    have hf21 := free_blk HK2.out 1
    have hp1 := HP0.out
    obtain ⟨hcx, hfx⟩ := own_at HO2.out ((l.length / 8 : Nat) : Int) (by omega) (by rw [hp1]; omega)
    rw [Int.toNat_natCast] at hcx hfx
    obtain ⟨q, hq⟩ : ∃ q : Nat, l.length / 8 = q := ⟨_, rfl⟩
    rw [hq] at hcx hfx
    have hq1 : (l.length : Int) / 8 = (q : Int) := by omega
    have hq2 : (q : Int) < (((packB l).length + 1 : Nat) : Int) := by rw [hp1]; omega
    have hq3 : ((q : Int)).toNat = q := by omega
    have hr0 : (0 : Int) ≤ (l.length : Int) % 8 := by omega
    have HQ := Lib.hid hq
    obtain ⟨yy, hyy⟩ : ∃ yy, bits BinOp.or .u8 (rd (packB l ++ [0]) (q : Int)) (x % 2 % 256) = yy := ⟨_, rfl⟩
    have HYY := Lib.hid hyy
    clear hyy
    have HSET : Hid ((packB l ++ [0]).set (l.length / 8) yy = packB (l ++ [x % 2])) := by
      have e1 : rd (packB l ++ [0]) (q : Int) = 0 := by
        unfold rd
        rw [Int.toNat_natCast, List.getD_eq_getElem?_getD, List.getElem?_append_right (by rw [hp1]; omega), show q - (packB l).length = 0 from by rw [hp1]; omega]; rfl
      have e2 : bits BinOp.or .u8 0 (x % 2 * 2 ^ 0) = 0 + x % 2 * 2 ^ 0 := or_u8 0 (x % 2) 0 (by omega) (by decide) (by omega) (by omega)
      show (packB l ++ [0]).set (l.length / 8) yy = packB (l ++ [x % 2])
      rw [← HYY.out, e1, show x % 2 % 256 = x % 2 * 2 ^ 0 from by omega, e2, show (0 : Int) + x % 2 * 2 ^ 0 = x % 2 from by omega]
      exact packB_new l _ hr
    have HRB : Hid ((⟨b1, q, none⟩ : Addr).block ∈ g :: rows v ∨ w.heap.size ≤ (⟨b1, q, none⟩ : Addr).block) := by
      rcases HAT.out with h | ⟨b, h, hb⟩
      · left; rw [rows, ← h]; simp [Value.ownBlock]
      · right; have : b1 = b := by simpa [Value.ownBlock] using h
        show w.heap.size ≤ b1; omega
    clear hp1 hq
    go_region
    rw [show bits BinOp.or .u8 (rd (packB l ++ [0]) (q : Int)) (x % 2 % 256) = yy from by rw [← HYY.out]]
    have hO3 := (own_store HO2.out (q : Int) yy).1
    rw [Int.toNat_natCast, ← HQ.out, HSET.out] at hO3
    rw [HQ.out] at hO3
    have hg1b : g ≠ b1 := by omega
    have hk3 : (w2.setCell ⟨b1, q, none⟩ (.int .u8 yy)).heap[g]? = some (.cells #[.slice (some ⟨b1, 0, none⟩) ((packB l).length + 1) c1, .int .i64 l.length] 48 (0, 0)) := by
      exact blk_far HK2.out (p := ⟨b1, q, none⟩) hg1b _
    have hM3 := HM2.out.setCell (p := ⟨b1, q, none⟩) (HRB.out) (.int .u8 yy)
    have HO3 := Lib.hid hO3; have HK3 := Lib.hid hk3; have HM3 := Lib.hid hM3
    clear hO3 hk3 hM3 hc20 hc21 hf21 hcx hfx
    generalize w2.setCell ⟨b1, q, none⟩ (.int .u8 yy) = w3 at *
    have hc31 : w3.cell? ⟨g, 1, none⟩ = some (.int .i64 l.length) := cell_blk HK3.out 1
    have hf31 := free_blk HK3.out 1
    go_wp2_with fail
    have hk4 := blk_set HK3.out 1 (.int .i64 ((l.length : Int) + 1))
    have ho4 : (w3.setCell ⟨g, 1, none⟩ (.int .i64 ((l.length : Int) + 1))).ownsRow (g + 1) 5 1 (.slice (some ⟨b1, 0, none⟩) ((packB l).length + 1) c1) ((packB l).length + 1) (nums .u8 (packB (l ++ [x % 2]))) := by
      refine own_setCell HO3.out (fun h => ?_) _
      have := own_base HO3.out g h.symm
      omega
    have hM4 := HM3.out.setCell (p := ⟨g, 1, none⟩) (.inl (by simp)) (.int .i64 ((l.length : Int) + 1))
    go_end0
    refine ⟨rfl, _, ⟨by simp; omega, HB.out.app (by intro z hz; simp at hz; omega), ?_, ?_⟩, hM4.drew, HAT.out⟩
    · show (w3.setCell ⟨g, 1, none⟩ (.int .i64 ((l.length : Int) + 1))).heap[g]? = _
      rw [hk4, List.length_append]; rfl
    · have e : ((l ++ [x % 2]).length + 7) / 8 = (packB l).length + 1 := by rw [List.length_append]; have := HP0.out; simp; omega
      rw [e]; exact ho4.drew
  · have hrb : ((l.length : Int) % 8 == 0) = false := by simp; omega
    have hp0 := packB_length l
    obtain ⟨b1, c1, hv1, hg1⟩ := own_some2 ho (by omega)
    have e0 : (l.length + 7) / 8 = (packB l).length := hp0.symm
    rw [e0] at ho hv1
    have hM2 : Mods (g :: rows v) w w := Mods.refl _ _
    have hv0 : rows v = [b1] := by rw [hv1]; rfl
    rw [hv0] at hM2
    rw [hv0]
    subst hv1
    have HO2 := Lib.hid ho; have HK2 := Lib.hid hk; have HB := Lib.hid hbits; have HP0 := Lib.hid hp0; have HM2 := Lib.hid hM2
    clear ho hk hbits e0 hp0 hM2 hv0 hc0 hc1 hf0 hf1
    have hand : bits BinOp.and .u32 x 1 = x % 2 := and_one x hx
    obtain ⟨w2, hw2⟩ : ∃ w2 : World, w2 = w := ⟨_, rfl⟩
    rw [← hw2] at HO2 HK2
    have HM2 : Hid (Mods [g, b1] w w2) := by rw [hw2]; exact HM2.out
    suffices hs : Calls Try.prog 23 #[.pointer (some ⟨g, 0, none⟩), .int .u32 x] w2 fun e w' => e = .returned (.tuple #[]) ∧ ∃ v', Wtr w' g v' (l ++ [x % 2]) ∧ Mods [g, b1] w w' ∧ (v'.ownBlock = (Value.slice (some ⟨b1, 0, none⟩) (packB l).length c1).ownBlock ∨ ∃ b, v'.ownBlock = some b ∧ w.heap.size ≤ b) by rw [← hw2]; rw [← hw2] at hs; exact hs
    clear hw2
    have hc10 : w2.cell? ⟨g, 1, none⟩ = some (.int .i64 l.length) := cell_blk HK2.out 1
    go_enter Try.func23, Try.ntmps23
    go_wp2_with fail
    have hc20 : w2.cell? ⟨g, 0, none⟩ = some (.slice (some ⟨b1, 0, none⟩) (packB l).length c1) := cell_blk HK2.out 0
    have hc21 : w2.cell? ⟨g, 1, none⟩ = some (.int .i64 l.length) := cell_blk HK2.out 1
    have hf21 := free_blk HK2.out 1
    have hp1 := HP0.out
    obtain ⟨hcx, hfx⟩ := own_at HO2.out ((l.length / 8 : Nat) : Int) (by omega) (by rw [hp1]; omega)
    rw [Int.toNat_natCast] at hcx hfx
    obtain ⟨q, hq⟩ : ∃ q : Nat, l.length / 8 = q := ⟨_, rfl⟩
    rw [hq] at hcx hfx
    have hq1 : (l.length : Int) / 8 = (q : Int) := by omega
    have hq2 : (q : Int) < (((packB l).length : Nat) : Int) := by rw [hp1]; omega
    have hq3 : ((q : Int)).toNat = q := by omega
    have hr0 : (0 : Int) ≤ (l.length : Int) % 8 := by omega
    have HQ := Lib.hid hq
    obtain ⟨yy, hyy⟩ : ∃ yy, bits BinOp.or .u8 (rd (packB l) (q : Int)) (x % 2 * 2 ^ (l.length % 8) % 256) = yy := ⟨_, rfl⟩
    have HYY := Lib.hid hyy
    clear hyy
    have HSET : Hid ((packB l).set (l.length / 8) yy = packB (l ++ [x % 2])) := by
      have e1 : rd (packB l) (q : Int) = byteAt l (l.length / 8) := by
        unfold rd
        rw [Int.toNat_natCast, List.getD_eq_getElem?_getD, packB_get _ _ (by omega), hq]; rfl
      have e2 : bits BinOp.or .u8 (byteAt l (l.length / 8)) (x % 2 * 2 ^ (l.length % 8)) = byteAt l (l.length / 8) + x % 2 * 2 ^ (l.length % 8) := or_u8 _ (x % 2) _ (byteAt_bounds HB.out _).1 (byteAt_low HB.out) (by omega) (by omega)
      have e3 : x % 2 * 2 ^ (l.length % 8) % 256 = x % 2 * 2 ^ (l.length % 8) := by
        have h1 : (2 : Int) ^ (l.length % 8) ≤ 2 ^ 7 := by exact_mod_cast Nat.pow_le_pow_right (by decide) (by omega)
        have h2 : (0 : Int) < 2 ^ (l.length % 8) := by exact_mod_cast Nat.two_pow_pos _
        have h3 : x % 2 = 0 ∨ x % 2 = 1 := by omega
        rcases h3 with h3 | h3 <;> rw [h3] <;> omega
      show (packB l).set (l.length / 8) yy = packB (l ++ [x % 2])
      rw [← HYY.out, e1, e3, e2]
      exact packB_more l _ hr
    have HRB : Hid ((⟨b1, q, none⟩ : Addr).block ∈ [g, b1] ∨ w.heap.size ≤ (⟨b1, q, none⟩ : Addr).block) := .inl (by simp)
    clear hp1 hq
    go_region
    rw [show bits BinOp.or .u8 (rd (packB l) (q : Int)) (x % 2 * 2 ^ (l.length % 8) % 256) = yy from HYY.out]
    have hO3 := (own_store HO2.out (q : Int) yy).1
    rw [Int.toNat_natCast, ← HQ.out, HSET.out] at hO3
    rw [HQ.out] at hO3
    have hg1b : g ≠ b1 := by omega
    have hk3 : (w2.setCell ⟨b1, q, none⟩ (.int .u8 yy)).heap[g]? = some (.cells #[.slice (some ⟨b1, 0, none⟩) (packB l).length c1, .int .i64 l.length] 48 (0, 0)) := by
      exact blk_far HK2.out (p := ⟨b1, q, none⟩) hg1b _
    have hM3 := HM2.out.setCell (p := ⟨b1, q, none⟩) (HRB.out) (.int .u8 yy)
    have HO3 := Lib.hid hO3; have HK3 := Lib.hid hk3; have HM3 := Lib.hid hM3
    clear hO3 hk3 hM3 hc20 hc21 hf21 hcx hfx
    generalize w2.setCell ⟨b1, q, none⟩ (.int .u8 yy) = w3 at *
    have hc31 : w3.cell? ⟨g, 1, none⟩ = some (.int .i64 l.length) := cell_blk HK3.out 1
    have hf31 := free_blk HK3.out 1
    go_wp2_with fail
    have hk4 := blk_set HK3.out 1 (.int .i64 ((l.length : Int) + 1))
    have ho4 : (w3.setCell ⟨g, 1, none⟩ (.int .i64 ((l.length : Int) + 1))).ownsRow (g + 1) 5 1 (.slice (some ⟨b1, 0, none⟩) (packB l).length c1) (packB l).length (nums .u8 (packB (l ++ [x % 2]))) := by
      refine own_setCell HO3.out (fun h => ?_) _
      have := own_base HO3.out g h.symm
      omega
    have hM4 := HM3.out.setCell (p := ⟨g, 1, none⟩) (.inl (by simp)) (.int .i64 ((l.length : Int) + 1))
    go_end0
    refine ⟨rfl, _, ⟨by simp; omega, HB.out.app (by intro z hz; simp at hz; omega), ?_, ?_⟩, hM4.drew, .inl rfl⟩
    · show (w3.setCell ⟨g, 1, none⟩ (.int .i64 ((l.length : Int) + 1))).heap[g]? = _
      rw [hk4, List.length_append]; rfl
    · have e : ((l ++ [x % 2]).length + 7) / 8 = (packB l).length := by rw [List.length_append]; have := HP0.out; simp; omega
      rw [e]; exact ho4.drew

theorem Wtr.mods {S : List Nat} {w w' : World} {g : Nat} {v : Value} {l : List Int} (h : Wtr w g v l) (hm : Mods S w w') (hg : g ∉ S) (hv : ∀ b, v.ownBlock = some b → b ∉ S) : Wtr w' g v l := by
  obtain ⟨h1, h2, hk, ho⟩ := h
  exact ⟨h1, h2, hm.blk hk hg, own_move ho (fun k hk => hm.block k (own_lt ho k hk) (hv k hk))⟩
theorem Wtr.drewN {w : World} {g : Nat} {v : Value} {l : List Int} (h : Wtr w g v l) (n : Nat) : Wtr (w.drewN n) g v l :=
  h.mods (S := []) ((Mods.refl [] w).drewN n) (by simp) (by simp)

set_option maxRecDepth 8000 in
set_option maxHeartbeats 1000000 in
theorem w_bits (g : Nat) (v : Value) (l : List Int) (x : Int) (n : Nat) (w : World) (h : Wtr w g v l) (hn : n ≤ 32) (hx : 0 ≤ x ∧ x < 2 ^ n) (hl : l.length + n ≤ 140737488351232) :
    Calls Try.prog 10 #[.pointer (some ⟨g, 0, none⟩), .int .u32 x, .int .i64 n] w fun e w' => e = .returned (.bool true) ∧ ∃ v', Wtr w' g v' (l ++ bitsOf x n) ∧ Mods (g :: rows v) w w' ∧ (v'.ownBlock = v.ownBlock ∨ ∃ b, v'.ownBlock = some b ∧ w.heap.size ≤ b) := by
  have H := Lib.hid h
  have hp : (2 : Int) ^ n ≤ 2 ^ 32 := by exact_mod_cast Nat.pow_le_pow_right (by decide) hn
  have hxw : x < 4294967296 := by omega
  have hd : x / 2 ^ n = 0 := Int.ediv_eq_zero_of_lt hx.1 hx.2
  have hd2 : (x / 2 ^ n != 0) = false := by rw [hd]; rfl
  have HX := Lib.hid hx.2
  have hx0 := hx.1
  have hd3 : decide ((n : Int) < 0) = false := by simp
  have hd4 : decide (32 < (n : Int)) = false := by simp; omega
  clear h hp hx hd
  go_enter Try.func10, Try.ntmps10
  go_wp2
  go_loopw [7, 26] (fun _ i wr => ∃ k : Nat, k ≤ n ∧ i = .int .i64 k ∧ Hid (∃ v', Wtr wr g v' (l ++ bitsOf x k) ∧ Mods (g :: rows v) w wr ∧ (v'.ownBlock = v.ownBlock ∨ ∃ b, v'.ownBlock = some b ∧ w.heap.size ≤ b))) (fun _ i _ => n - (intOf i).toNat)
  case atStart => exact ⟨0, by omega, rfl, v, by rw [show bitsOf x 0 = [] from rfl, List.append_nil]; exact H.out, Mods.refl _ _, .inl rfl⟩
  case round =>
    obtain ⟨k, hk, rfl, HV⟩ := hrel
    by_cases hlt : k < n
    · have hq0 : 0 ≤ x / 2 ^ k := Int.ediv_nonneg hx0 (by exact_mod_cast Nat.zero_le _)
      have hq1 : x / 2 ^ k ≤ x := Int.ediv_le_self _ hx0
      obtain ⟨v1, hv1, hm1, ha1⟩ := HV.out
      have HV1 := Lib.hid hv1; have HM1 := Lib.hid hm1; have HA1 := Lib.hid ha1
      clear hv1 hm1 ha1 HV
      go_wp2_with fail
      refine (w_one g v1 (l ++ bitsOf x k) (x / 2 ^ k) wr HV1.out ⟨hq0, by omega⟩ (by rw [List.length_append, bitsOf_length]; omega)).mono ?_
      rintro e w2 ⟨rfl, v2, hv2, hm2, ha2⟩
      have HX2 : Hid (∃ v', Wtr w2 g v' (l ++ bitsOf x (k + 1)) ∧ Mods (g :: rows v) w w2 ∧ (v'.ownBlock = v.ownBlock ∨ ∃ b, v'.ownBlock = some b ∧ w.heap.size ≤ b)) := by
        refine ⟨v2, by rw [bitsOf_succ, ← List.append_assoc]; exact hv2, HM1.out.trans_new hm2 (fun r hr => ?_), ?_⟩
        · rcases List.mem_cons.1 hr with rfl | hr
          · exact .inl (by simp)
          · have hr' : v1.ownBlock = some r := by simpa [rows] using hr
            rcases HA1.out with h | ⟨b, h, hb⟩
            · exact .inl (by simp [rows, ← h, hr'])
            · rw [hr'] at h; cases h; exact .inr hb
        · rcases ha2 with h | ⟨b, h, hb⟩
          · rw [h]; exact HA1.out
          · exact .inr ⟨b, h, by have := HM1.out.size; omega⟩
      clear hv2 hm2 ha2
      go_wp2_with fail
      go_roundw
      case rel => exact ⟨k + 1, by omega, by go_num, HX2.out⟩
      case measure => simp [intOf]; omega
    · obtain rfl : k = n := by omega
      go_wp2_with fail
      go_ret
      exact ⟨rfl, HV.out⟩

set_option maxHeartbeats 400000 in
theorem w_len (g : Nat) (v : Value) (l : List Int) (w : World) (h : Wtr w g v l) :
    Calls Try.prog 9 #[.pointer (some ⟨g, 0, none⟩)] w fun e w' => e = .returned (.int .i64 l.length) ∧ w = w' := by
  obtain ⟨_, _, hk, _⟩ := h
  have hc1 : w.cell? ⟨g, 1, none⟩ = some (.int .i64 l.length) := cell_blk hk 1
  clear hk
  go_enter Try.func9, Try.ntmps9
  go_wp2
  go_ret
  exact ⟨rfl, rfl⟩

set_option maxRecDepth 8000 in
set_option maxHeartbeats 1000000 in
theorem clone_any (A : Option Addr) (n c : Nat) (bs : List Int) (w : World) (HR : ReadsInt w .u8 A n bs) (hn : n ≤ 140737488351232) :
    Calls Try.prog 25 #[.slice A n c] w fun e w' => ∃ v, e = .returned v ∧ w'.ownsRow w.heap.size 5 1 v n (nums .u8 bs) ∧ Below w.heap.size w w' := by
  have HRR := Lib.hid HR
  have hbl := HR.1
  have h0 : A = none → n = 0 := fun e => by
    rcases Nat.eq_zero_or_pos n with h | h
    · exact h
    · obtain ⟨ad, e2, _⟩ := HR.2.2 h
      rw [e] at e2; cases e2
  clear HR
  cases A with
  | none =>
    have := h0 rfl
    subst this
    obtain rfl := List.length_eq_zero_iff.1 hbl
    clear h0
    have hnil : ∀ W, (binOp .eql 34 (.slice none 0 c) (.slice none 0 0)).run Try.prog W = .ok (.bool true) W := fun W => Lib.run_eql_slice_nil W 34 5 none 0 c 0 0 Try.underlying34
    go_enter Try.func25, Try.ntmps25
    go_wp2
    go_ret
    exact ⟨_, rfl, own_nil _ _ _ _, Below.refl _ _⟩
  | some ad =>
    clear h0
    have hnil : ∀ W, (binOp .eql 34 (.slice (some ad) n c) (.slice none 0 0)).run Try.prog W = .ok (.bool false) W := fun W => Lib.run_eql_slice_nil W 34 5 (some ad) n c 0 0 Try.underlying34
    go_enter Try.func25, Try.ntmps25
    go_wp2_with (at_builtin; refine print_append_row w.heap.size rfl _ _ 34 5 .u8 1 rfl Try.underlying34 info_u8 (by decide) _ [] bs (some ad) n c rfl rfl (by exact own_lit w w.heap.size 5 .u8 [] (Nat.le_refl _) (by decide)) (by exact HRR.out.below ((Below.refl _ w).alloc (Nat.le_refl _) _)) ((Below.refl _ w).alloc (Nat.le_refl _) _) (by simp) (by simp; omega) ?_)
    intro v1 w1 hown hB1 _ _
    obtain ⟨A1, c1, rfl, hR1⟩ := own_reads hown
    have HO := Lib.hid hown; have HB := Lib.hid hB1
    clear hown hB1 hR1
    have HL := Lib.hid hbl
    clear hbl
    go_wp2_with fail
    go_ret
    exact ⟨_, rfl, HO.out, HB.out⟩

set_option maxRecDepth 8000 in
set_option maxHeartbeats 1000000 in
theorem w_bytes (g : Nat) (v : Value) (l : List Int) (w : World) (h : Wtr w g v l) :
    Calls Try.prog 12 #[.pointer (some ⟨g, 0, none⟩)] w fun e w' => ∃ v', e = .returned v' ∧ w'.ownsRow w.heap.size 5 1 v' ((l.length + 7) / 8) (nums .u8 (packB l)) ∧ Below w.heap.size w w' := by
  obtain ⟨hl, _, hk, ho⟩ := h
  obtain ⟨A1, c1, rfl, hR1⟩ := own_reads ho
  have hc0 : w.cell? ⟨g, 0, none⟩ = some (.slice A1 ((l.length + 7) / 8) c1) := cell_blk hk 0
  have HR := Lib.hid hR1
  clear hk ho hR1
  go_enter Try.func12, Try.ntmps12
  go_wp2_with fail
  refine (clone_any A1 _ c1 _ w HR.out (by omega)).mono ?_
  rintro e w2 ⟨v2, rfl, hO, hB⟩
  obtain ⟨A2, c2, rfl, hR2⟩ := own_reads hO
  have HO := Lib.hid hO; have HB := Lib.hid hB
  clear hO hB hR2
  go_wp2_with fail
  go_ret
  exact ⟨_, rfl, HO.out, HB.out⟩
end Go.Proofs.Ytbljoihnjhllhaa

/- What the functions of package bitin do. -/
namespace Go.Proofs.Ytbljoihnjhllhaa
open Go.RowKit
open Go.Proofs.YtbljoihnjhllhaaW.PrintWords

/-- Block g is a Reader of the bytes bs, p bits of which are read; o: they ran out. -/
def Rdr (w : World) (g : Nat) (A : Option Addr) (bs : List Int) (p : Nat) (o : Bool) : Prop :=
  p ≤ 8 * bs.length ∧ bs.length ≤ 140737488351232 ∧ (∀ x ∈ bs, 0 ≤ x ∧ x ≤ 255) ∧ (∃ c, w.heap[g]? = some (.cells #[.slice A bs.length c, .int .i64 p, .bool o] 64 (0, 0))) ∧ ReadsInt w .u8 A bs.length bs ∧ ∀ ad, A = some ad → ad.block ≠ g

theorem Rdr.lt {w : World} {g : Nat} {A : Option Addr} {bs : List Int} {p : Nat} {o : Bool} (h : Rdr w g A bs p o) : g < w.heap.size := by
  obtain ⟨_, _, _, ⟨c, hb⟩, _⟩ := h
  exact blk_lt hb
theorem Rdr.mods {S : List Nat} {w w' : World} {g : Nat} {A : Option Addr} {bs : List Int} {p : Nat} {o : Bool} (h : Rdr w g A bs p o) (hm : Mods S w w') (hg : g ∉ S) (hs : ∀ ad, A = some ad → ad.block ∉ S) : Rdr w' g A bs p o := by
  obtain ⟨h1, h2, h3, ⟨c, hb⟩, hr, hn⟩ := h
  exact ⟨h1, h2, h3, ⟨c, hm.blk hb hg⟩, ReadsInt.mods hr hm hs, hn⟩
theorem Rdr.drewN {w : World} {g : Nat} {A : Option Addr} {bs : List Int} {p : Nat} {o : Bool} (h : Rdr w g A bs p o) (n : Nat) : Rdr (w.drewN n) g A bs p o :=
  h.mods (S := []) ((Mods.refl [] w).drewN n) (by simp) (by simp)

set_option maxHeartbeats 400000 in
theorem over_nil (w : World) :
    Calls Try.prog 56 #[.pointer none] w fun e w' => e = .returned (.bool true) ∧ w = w' := by
  go_enter Try.func56, Try.ntmps56
  go_wp2
  go_ret
  exact ⟨rfl, rfl⟩
set_option maxHeartbeats 400000 in
theorem over_any (g : Nat) (A : Option Addr) (bs : List Int) (p : Nat) (o : Bool) (w : World) (h : Rdr w g A bs p o) :
    Calls Try.prog 56 #[.pointer (some ⟨g, 0, none⟩)] w fun e w' => e = .returned (.bool o) ∧ w = w' := by
  obtain ⟨hp, hl, hx, ⟨c, hb⟩, hr, hn⟩ := h
  have h2 : w.cell? ⟨g, 2, none⟩ = some (.bool o) := cell_blk hb 2
  clear hb hr hn hx
  go_enter Try.func56, Try.ntmps56
  go_wp2
  go_ret
  exact ⟨rfl, rfl⟩

set_option maxHeartbeats 400000 in
theorem left_any (g : Nat) (A : Option Addr) (bs : List Int) (p : Nat) (o : Bool) (w : World) (h : Rdr w g A bs p o) :
    Calls Try.prog 55 #[.pointer (some ⟨g, 0, none⟩)] w fun e w' => e = .returned (.int .i64 (if o then 0 else 8 * bs.length - p)) ∧ ∃ m, w' = w.drewN m := by
  obtain ⟨hp, hl, hx, ⟨c, hb⟩, hr, hn⟩ := h
  have h0 : w.cell? ⟨g, 0, none⟩ = some (.slice A bs.length c) := cell_blk hb 0
  have h1 : w.cell? ⟨g, 1, none⟩ = some (.int .i64 p) := cell_blk hb 1
  have h2 : w.cell? ⟨g, 2, none⟩ = some (.bool o) := cell_blk hb 2
  clear hb hr hn hx
  cases o
  · have e1 : (0 : Int) ≤ 8 * (bs.length : Int) := by omega
    have e2 : 8 * (bs.length : Int) ≤ 9223372036854775807 := by omega
    have e3 : (p : Int) ≤ 8 * (bs.length : Int) := by omega
    go_enter Try.func55, Try.ntmps55
    go_wp2
    go_quiet (fail)
    go_wp2
    go_ret
    exact ⟨rfl, _, rfl⟩
  · go_enter Try.func55, Try.ntmps55
    go_wp2
    go_ret
    exact ⟨rfl, 0, rfl⟩


theorem emod_shift (x z a b : Int) (hx : 0 ≤ x) (hxa : x < a) (hb : 0 < b) : (x + z * a) % (a * b) = x + z % b * a := by
  have ha : 0 < a := by omega
  have h1 : z * a = z % b * a + a * b * (z / b) := by
    have := Int.emod_add_mul_ediv z b
    calc z * a = (z % b + b * (z / b)) * a := by rw [this]
      _ = _ := by rw [Int.add_mul, Int.mul_comm a b, Int.mul_right_comm]
  have h2 : 0 ≤ z % b := Int.emod_nonneg _ (by omega)
  have h3 : z % b < b := Int.emod_lt_of_pos _ hb
  have h4 : z % b * a ≤ (b - 1) * a := Int.mul_le_mul_of_nonneg_right (by omega) (by omega)
  have h5 : (b - 1) * a = a * b - a := by rw [Int.sub_mul, Int.one_mul, Int.mul_comm]
  have h6 : 0 ≤ z % b * a := Int.mul_nonneg h2 (by omega)
  rw [h1, ← Int.add_assoc, Int.add_mul_emod_self_left, Int.emod_eq_of_lt (by omega) (by omega)]

theorem wrap_u64_in (n : Int) (h0 : 0 ≤ n) (h1 : n < 18446744073709551616) : IntKind.u64.wrap n = n := by
  simp [IntKind.wrap, IntKind.bits, IntKind.signed]; omega
theorem wraps_u64' (n : Int) (h0 : 0 ≤ n) (h1 : n < 2 ^ 64) : IntKind.u64.wrap n = n := wrap_u64_in n h0 (by omega)
theorem pow_mono_int {a b : Nat} (h : a ≤ b) : (2 : Int) ^ a ≤ 2 ^ b := by exact_mod_cast Nat.pow_le_pow_right (by decide) h
theorem pow_pos_int (a : Nat) : (0 : Int) < 2 ^ a := by exact_mod_cast Nat.two_pow_pos a

theorem or_join_u64 (x z : Int) (j : Nat) (hx : 0 ≤ x) (hxj : x < 2 ^ j) (hz : 0 ≤ z) (h : z * 2 ^ j < 2 ^ 64) (hj : j ≤ 64) : bits .or .u64 x (z * 2 ^ j) = x + z * 2 ^ j := by
  have hp := pow_mono_int hj
  obtain ⟨a, rfl⟩ := Int.eq_ofNat_of_zero_le hx
  obtain ⟨b, rfl⟩ := Int.eq_ofNat_of_zero_le hz
  have hc : (b : Int) * 2 ^ j = ((b * 2 ^ j : Nat) : Int) := by simp
  rw [hc] at h ⊢
  have ha' : a < 2 ^ j := by exact_mod_cast hxj
  have h3 : (a : Int) < 2 ^ 64 := by omega
  have h1 := (bits_nat .u64 64 (by decide) wraps_u64' a (b * 2 ^ j) (by exact_mod_cast h3) (by exact_mod_cast h)).2
  rw [h1, ← Nat.shiftLeft_eq, or_shift a b j ha']
  simp [Nat.shiftLeft_eq]

theorem bits_round (bs : List Int) (p j k t : Nat) (x y : Int) (hb : 0 ≤ y ∧ y ≤ 255) (hy : y = bs[(p + j) / 8]?.getD 0) (hj : j < k) (hk : k ≤ 32) (ht : t ≤ 8 - (p + j) % 8) (_ht2 : t ≤ k - j) (ht3 : t = 8 - (p + j) % 8 ∨ t = k - j) (hx : x = bitsVal bs p j) :
    let x' := bits BinOp.or IntKind.u64 x (IntKind.u64.wrap (IntKind.u64.wrap (y / 2 ^ ((p + j) % 8)) * 2 ^ j))
    0 ≤ x' ∧ x' < 2 ^ 40 ∧ x' % 2 ^ (j + t) = bitsVal bs p (j + t) ∧ (j + t < k → x' = bitsVal bs p (j + t)) := by
  have hr : (p + j) % 8 < 8 := Nat.mod_lt _ (by decide)
  have hx0 := bitsVal_nonneg bs p j
  have hx1 := bitsVal_lt bs p j
  have hP := pow_pos_int ((p + j) % 8)
  have hz0 : 0 ≤ y / 2 ^ ((p + j) % 8) := Int.ediv_nonneg hb.1 (by omega)
  have hz1 : y / 2 ^ ((p + j) % 8) < 2 ^ (8 - (p + j) % 8) := by
    refine Int.ediv_lt_of_lt_mul hP ?_
    rw [← Int.pow_add, show 8 - (p + j) % 8 + (p + j) % 8 = 8 from by omega]
    omega
  have hbv := bitsVal_byte bs (p + j) t (by omega)
  rw [← hy] at hbv
  generalize y / 2 ^ ((p + j) % 8) = z at *
  have hz2 : z < 256 := Int.lt_of_lt_of_le hz1 (by have := pow_mono_int (show 8 - (p + j) % 8 ≤ 8 from by omega); omega)
  have hJ := pow_pos_int j
  have hJ2 : (2 : Int) ^ j ≤ 2147483648 := pow_mono_int (show j ≤ 31 from by omega)
  have hm0 : 0 ≤ z * 2 ^ j := Int.mul_nonneg hz0 (by omega)
  have hm1 : z * 2 ^ j ≤ 255 * 2147483648 := Int.le_trans (Int.mul_le_mul_of_nonneg_right (by omega) (by omega)) (Int.mul_le_mul_of_nonneg_left hJ2 (by omega))
  rw [wrap_u64_in z hz0 (by omega), wrap_u64_in _ hm0 (by omega), or_join_u64 x z j (by omega) (by omega) hz0 (by omega) (by omega)]
  have hT := pow_pos_int t
  refine ⟨by omega, by omega, ?_, fun h => ?_⟩
  · rw [Int.pow_add, emod_shift x z _ _ (by omega) (by omega) hT, bitsVal_add, hbv, hx]
  · have h8 : t = 8 - (p + j) % 8 := by omega
    rw [bitsVal_add, hbv, ← hx, h8, Int.emod_eq_of_lt hz0 hz1]
theorem bits_final (bs : List Int) (p k : Nat) (x : Int) (_hk : 0 < k) (hk2 : k ≤ 32) (hx0 : 0 ≤ x) (hx1 : x < 2 ^ 40) (hx : x % 2 ^ k = bitsVal bs p k) :
    bits BinOp.and IntKind.u64 x (IntKind.u64.wrap (IntKind.u64.wrap (2 ^ k) - 1)) % 4294967296 = bitsVal bs p k := by
  have h1 := pow_pos_int k
  have h2 : (2 : Int) ^ k ≤ 4294967296 := pow_mono_int hk2
  rw [wrap_u64_in (2 ^ k) (by omega) (by omega), wrap_u64_in _ (by omega) (by omega), bits_mask .u64 64 (by decide) wraps_u64' k (by omega) x hx0 (by omega), hx]
  have := bitsVal_nonneg bs p k
  have := bitsVal_lt bs p k
  omega

set_option maxHeartbeats 1000000 in
theorem bits_any (g : Nat) (A : Option Addr) (bs : List Int) (p : Nat) (k : Nat) (w : World) (hp : p + k ≤ 8 * bs.length) (hk : 0 < k) (hk2 : k ≤ 32) (h : Rdr w g A bs p false) :
    Calls Try.prog 40 #[.pointer (some ⟨g, 0, none⟩), .int .i64 k] w fun e w' => e = .returned (.tuple #[.int .u32 (bitsVal bs p k), .int .i64 0]) ∧ Rdr w' g A bs (p + k) false ∧ Mods [g] w w' := by
  have H := Lib.hid h
  have e2 : ((k : Int) == 0) = false := by simp; omega
  have e1 : (k : Int) ≤ 8 * (bs.length : Int) - (p : Int) := by omega
  clear h
  go_enter Try.func40, Try.ntmps40
  go_wp2_with (go_at_call 55; refine (left_any g A bs p false _ H.out).mono ?_; rintro e w' ⟨rfl, nq, rfl⟩)
  go_loopw [6, 7] (fun v i wr => ∃ j : Nat, j ≤ k ∧ i = .int .i64 j ∧ (∃ x : Int, v = .int .u64 x ∧ 0 ≤ x ∧ x < 2 ^ 40 ∧ x % 2 ^ j = bitsVal bs p j ∧ (j < k → x = bitsVal bs p j)) ∧ Rdr wr g A bs (p + j) false ∧ Mods [g] w wr) (fun _ i _ => k - (intOf i).toNat)
  case atStart => exact ⟨0, by omega, rfl, ⟨0, rfl, by omega, by omega, by simp [bitsVal, Int.emod_one], fun _ => rfl⟩, H.out.drewN _, (Mods.refl _ _).drewN _⟩
  case round =>
    obtain ⟨j, hj, rfl, ⟨x, rfl, hx0, hx1, hxm, hxe⟩, h, hM⟩ := hrel
    obtain ⟨hp', hl, hbx, ⟨c, hb⟩, hr, hn⟩ := h
    have h0 : wr.cell? ⟨g, 0, none⟩ = some (.slice A bs.length c) := cell_blk hb 0
    have h1 : wr.cell? ⟨g, 1, none⟩ = some (.int .i64 ((p + j : Nat) : Int)) := cell_blk hb 1
    have h2 : wr.cell? ⟨g, 2, none⟩ = some (.bool false) := cell_blk hb 2
    have f1 : wr.frozen? ⟨g, 1, none⟩ = false := free_blk hb 1
    have HB := Lib.hid hb; have HR := Lib.hid hr; have HN := Lib.hid hn; have HX := Lib.hid hbx; have HM := Lib.hid hM; have HXM := Lib.hid hxm; have HXE := Lib.hid hxe
    clear hb hr hn hbx hM hxm hxe
    by_cases hlt : j < k
    · obtain ⟨ad, hA, hcell⟩ := ReadsInt.at_ HR.out ((((p + j : Nat) : Int)) / 8) (by omega) (by omega)
      have hq : ((((p + j : Nat) : Int)) / 8).toNat = (p + j) / 8 := by omega
      rw [hq] at hcell
      rw [hA] at h0
      have HA := Lib.hid hA; clear hA
      have hyb : 0 ≤ rd bs (((p + j : Nat) : Int) / 8) ∧ rd bs (((p + j : Nat) : Int) / 8) ≤ 255 := HX.out _ (by unfold rd; rw [hq, List.getD_eq_getElem?_getD, List.getElem?_eq_getElem (by omega)]; exact List.getElem_mem _)
      have hye : rd bs (((p + j : Nat) : Int) / 8) = bs[(p + j) / 8]?.getD 0 := by unfold rd; rw [hq, List.getD_eq_getElem?_getD]
      obtain ⟨t, ht, ht1, ht2, ht3⟩ : ∃ t : Nat, (if (k : Int) - (j : Int) < 8 - ((p : Int) + (j : Int)) % 8 then (k : Int) - (j : Int) else 8 - ((p : Int) + (j : Int)) % 8) = (t : Int) ∧ t ≤ 8 - (p + j) % 8 ∧ t ≤ k - j ∧ (t = 8 - (p + j) % 8 ∨ t = k - j) := ⟨min (k - j) (8 - (p + j) % 8), by split <;> omega, by omega, by omega, by omega⟩
      have hstep := bits_round bs p j k t x _ hyb hye hlt hk2 ht1 ht2 ht3 (HXE.out hlt)
      have HS := Lib.hid hstep; have HT := Lib.hid ht; have HT3 := Lib.hid ht3
      clear hstep ht hye ht3
      go_wp2
      go_quiet (fail)
      go_wp2
      go_roundw
      case rel =>
        have e := HT.out
        have hj2 : j + t ≤ k := by omega
        refine ⟨j + t, hj2, by rw [e]; rfl, ⟨_, rfl, ?_⟩, ?_, ?_⟩
        · have hcast : ((p : Int) + (j : Int)) / 8 = ((p + j : Nat) : Int) / 8 := by omega
          rw [hcast]; exact HS.out
        · refine ⟨by omega, hl, HX.out, ⟨c, ?_⟩, ?_, HN.out⟩
          · rw [e, blk_set (w := wr.drewN nq) (by rw [heap_drewN]; exact HB.out)]
            simp [← Int.natCast_add, Nat.add_assoc]
          · refine ReadsInt.mods HR.out (S := [g]) (((Mods.refl _ _).drewN _).setCell (by simp) _) ?_
            intro ad' h'; have := HN.out ad' h'; simpa using this
        · exact (HM.out.drewN _).setCell (by simp) _
      case measure =>
        have e := HT.out
        have h3 := HT3.out
        rw [e]; simp [intOf]; omega
    · have hjk : j = k := by omega
      have hfin := bits_final bs p k x hk hk2 hx0 hx1 (by rw [← hjk]; exact HXM.out)
      have HF := Lib.hid hfin; have HJK := Lib.hid hjk
      clear hfin hjk
      go_wp2
      go_ret2
      refine ⟨?_, ?_, HM.out⟩
      · show Ending.returned (.tuple #[.int .u32 _, .int .i64 0]) = _
        rw [HF.out]
      · rw [← HJK.out]
        exact ⟨hp', hl, HX.out, ⟨c, HB.out⟩, HR.out, HN.out⟩

/-- The same, the number under a name of its own. -/
theorem bits_to (v : Int) (g : Nat) (A : Option Addr) (bs : List Int) (p : Nat) (k : Nat) (w : World) (hv : Hid (bitsVal bs p k = v)) (hp : p + k ≤ 8 * bs.length) (hk : 0 < k) (hk2 : k ≤ 32) (h : Rdr w g A bs p false) :
    Calls Try.prog 40 #[.pointer (some ⟨g, 0, none⟩), .int .i64 k] w fun e w' => e = .returned (.tuple #[.int .u32 v, .int .i64 0]) ∧ Rdr w' g A bs (p + k) false ∧ Mods [g] w w' := by
  rw [← hv.out]
  exact bits_any g A bs p k w hp hk hk2 h

/-- No bits. -/
theorem bits_zero (g : Nat) (w : World) : Calls Try.prog 40 #[.pointer (some ⟨g, 0, none⟩), .int .i64 0] w fun e w' => e = .returned (.tuple #[.int .u32 0, .int .i64 0]) ∧ w = w' := by
  go_enter Try.func40, Try.ntmps40
  go_wp2
  go_ret2
  exact ⟨rfl, rfl⟩

set_option maxHeartbeats 400000 in
/-- Bits that run out. -/
theorem bits_out (g : Nat) (A : Option Addr) (bs : List Int) (p : Nat) (o : Bool) (k : Nat) (w : World) (hp : o = true ∨ 8 * bs.length < p + k) (hk : 0 < k) (hk2 : k ≤ 32) (h : Rdr w g A bs p o) :
    Calls Try.prog 40 #[.pointer (some ⟨g, 0, none⟩), .int .i64 k] w fun e w' => e = .returned (.tuple #[.int .u32 0, .int .i64 2]) ∧ Rdr w' g A bs p true ∧ Mods [g] w w' := by
  have H := Lib.hid h
  have e2 : ((k : Int) == 0) = false := by simp; omega
  have e1 : (if o then (0 : Int) else 8 * bs.length - p) < (k : Int) := by split <;> (rename_i h'; try simp [h'] at hp) <;> omega
  clear hp
  obtain ⟨hp', hl, hbx, ⟨c, hb⟩, hr, hn⟩ := h
  have h2 : w.cell? ⟨g, 2, none⟩ = some (.bool o) := cell_blk hb 2
  have f2 : w.frozen? ⟨g, 2, none⟩ = false := free_blk hb 2
  have HB := Lib.hid hb; have HR := Lib.hid hr; have HN := Lib.hid hn; have HX := Lib.hid hbx
  clear hb hr hn hbx
  generalize hq : (if o then (0 : Int) else 8 * bs.length - p) = q at e1
  have HQ := Lib.hid hq; clear hq
  go_enter Try.func40, Try.ntmps40
  go_wp2_with (go_at_call 55; refine (left_any g A bs p o _ H.out).mono ?_; rw [HQ.out]; rintro e w' ⟨rfl, nq, rfl⟩)
  go_ret2
  refine ⟨rfl, ⟨hp', hl, HX.out, ⟨c, ?_⟩, ?_, HN.out⟩, ((Mods.refl _ _).drewN _).setCell (by simp) _⟩
  · rw [blk_set (w := w.drewN _) (by rw [heap_drewN]; exact HB.out)]
    simp
  · refine ReadsInt.mods HR.out (S := [g]) (((Mods.refl _ _).drewN _).setCell (by simp) _) ?_
    intro ad' h'; have := HN.out ad' h'; simpa using this


set_option maxHeartbeats 400000 in
theorem newReader2 (A : Option Addr) (n c : Nat) (bs : List Int) (w : World) (HR : ReadsInt w .u8 A n bs) (hb : ∀ x ∈ bs, 0 ≤ x ∧ x ≤ 255) (hn : n ≤ 140737488351232) :
    Calls Try.prog 16 #[.slice A n c] w fun e w' => ∃ g A', e = .returned (.pointer (some ⟨g, 0, none⟩)) ∧ w.heap.size ≤ g ∧ (∀ ad, A' = some ad → w.heap.size ≤ ad.block) ∧ (∀ ad, A' = some ad → ad.block < w'.heap.size) ∧ Rdr w' g A' bs 0 false ∧ Below w.heap.size w w' := by
  have HR := Lib.hid HR; have HX := Lib.hid hb
  clear hb
  go_enter Try.func16, Try.ntmps16
  go_wp2_with (at_builtin; refine print_append_row w.heap.size rfl _ _ 34 5 .u8 1 rfl Try.underlying34 info_u8 (by decide) _ [] bs A n c rfl rfl (own_nil _ _ _ _) HR.out (Below.refl _ _) (Nat.le_refl _) ?hl ?_)
  case hl => simp; omega
  intro v1 w1 hown hB hg hat
  obtain ⟨A1, c1, rfl, hr1⟩ := own_reads hown
  have HO := Lib.hid hown; have HB := Lib.hid hB; have HR1 := Lib.hid hr1
  clear hown hB hr1 hg hat
  go_wp2
  go_ret
  have hfr : ∀ ad, A1 = some ad → w.heap.size ≤ ad.block := fun ad h => own_base HO.out ad.block (by rw [h]; rfl)
  have hlt : ∀ ad, A1 = some ad → ad.block < w1.heap.size := fun ad h => own_lt HO.out ad.block (by rw [h]; rfl)
  refine ⟨w1.heap.size, A1, rfl, HB.out.size, hfr, fun ad h => by have := hlt ad h; simp; omega, ⟨by omega, by have := HR.out.1; omega, HX.out, ⟨c1, blk_alloc _⟩, ?_, fun ad h => ?_⟩, HB.out.alloc HB.out.size _⟩
  · exact ReadsInt.mods HR1.out (S := []) ((Mods.refl _ _).alloc _) (by simp)
  · have := hlt ad h; omega
theorem newReader (A : Option Addr) (n c : Nat) (bs : List Int) (w : World) (HR : ReadsInt w .u8 A n bs) (hb : ∀ x ∈ bs, 0 ≤ x ∧ x ≤ 255) (hn : n ≤ 140737488351232) :
    Calls Try.prog 16 #[.slice A n c] w fun e w' => ∃ g A', e = .returned (.pointer (some ⟨g, 0, none⟩)) ∧ w.heap.size ≤ g ∧ (∀ ad, A' = some ad → w.heap.size ≤ ad.block) ∧ Rdr w' g A' bs 0 false ∧ Below w.heap.size w w' :=
  (newReader2 A n c bs w HR hb hn).mono fun _ _ ⟨g, A', h1, h2, h3, _, h5, h6⟩ => ⟨g, A', h1, h2, h3, h5, h6⟩
end Go.Proofs.Ytbljoihnjhllhaa
