/- What the functions of package bitin do. -/
import Derived.Test.YtfeloicmkcfinaaDoorChecked
import Derived.Test.YtfeloicmkcfinaaDoorTypes
import Derived.Test.YtfeloicmkcfinaaDoorBitsP
namespace Go.Proofs.YtfeloicmkcfinaaDoor
open Go.RowKit
open Go.Proofs.YtfeloicmkcfinaaDoorW.PrintWords

/-- Block g is a Reader of the bytes bs, p bits of which are read; o: they ran out. -/
def Rdr (w : World) (g : Nat) (A : Option Addr) (bs : List Int) (p : Nat) (o : Bool) : Prop :=
  p ≤ 8 * bs.length ∧ bs.length ≤ 140737488351232 ∧ (∀ x ∈ bs, 0 ≤ x ∧ x ≤ 255) ∧ (∃ c, w.heap[g]? = some (.cells #[.slice A bs.length c, .int .i64 p, .bool o] 60 (0, 0))) ∧ ReadsInt w .u8 A bs.length bs ∧ ∀ ad, A = some ad → ad.block ≠ g

theorem Rdr.lt {w : World} {g : Nat} {A : Option Addr} {bs : List Int} {p : Nat} {o : Bool} (h : Rdr w g A bs p o) : g < w.heap.size := by
  obtain ⟨_, _, _, ⟨c, hb⟩, _⟩ := h
  exact blk_lt hb
theorem Rdr.mods {S : List Nat} {w w' : World} {g : Nat} {A : Option Addr} {bs : List Int} {p : Nat} {o : Bool} (h : Rdr w g A bs p o) (hm : Mods S w w') (hg : g ∉ S) (hs : ∀ ad, A = some ad → ad.block ∉ S) : Rdr w' g A bs p o := by
  obtain ⟨h1, h2, h3, ⟨c, hb⟩, hr, hn⟩ := h
  exact ⟨h1, h2, h3, ⟨c, hm.blk hb hg⟩, ReadsInt.mods hr hm hs, hn⟩
theorem Rdr.drewN {w : World} {g : Nat} {A : Option Addr} {bs : List Int} {p : Nat} {o : Bool} (h : Rdr w g A bs p o) (n : Nat) : Rdr (w.drewN n) g A bs p o :=
  h.mods (S := []) ((Mods.refl [] w).drewN n) (by simp) (by simp)

set_option maxHeartbeats 400000 in
theorem over_nil (w : World) :
    Calls Tryd.prog 30 #[.pointer none] w fun e w' => e = .returned (.bool true) ∧ w = w' := by
  go_enter Tryd.func30, Tryd.ntmps30
  go_wp2
  go_ret
  exact ⟨rfl, rfl⟩
set_option maxHeartbeats 400000 in
theorem over_any (g : Nat) (A : Option Addr) (bs : List Int) (p : Nat) (o : Bool) (w : World) (h : Rdr w g A bs p o) :
    Calls Tryd.prog 30 #[.pointer (some ⟨g, 0, none⟩)] w fun e w' => e = .returned (.bool o) ∧ w = w' := by
  obtain ⟨hp, hl, hx, ⟨c, hb⟩, hr, hn⟩ := h
  have h2 : w.cell? ⟨g, 2, none⟩ = some (.bool o) := cell_blk hb 2
  clear hb hr hn hx
  go_enter Tryd.func30, Tryd.ntmps30
  go_wp2
  go_ret
  exact ⟨rfl, rfl⟩

set_option maxHeartbeats 400000 in
theorem left_any (g : Nat) (A : Option Addr) (bs : List Int) (p : Nat) (o : Bool) (w : World) (h : Rdr w g A bs p o) :
    Calls Tryd.prog 9 #[.pointer (some ⟨g, 0, none⟩)] w fun e w' => e = .returned (.int .i64 (if o then 0 else 8 * bs.length - p)) ∧ ∃ m, w' = w.drewN m := by
  obtain ⟨hp, hl, hx, ⟨c, hb⟩, hr, hn⟩ := h
  have h0 : w.cell? ⟨g, 0, none⟩ = some (.slice A bs.length c) := cell_blk hb 0
  have h1 : w.cell? ⟨g, 1, none⟩ = some (.int .i64 p) := cell_blk hb 1
  have h2 : w.cell? ⟨g, 2, none⟩ = some (.bool o) := cell_blk hb 2
  clear hb hr hn hx
  cases o
  · have e1 : (0 : Int) ≤ 8 * (bs.length : Int) := by omega
    have e2 : 8 * (bs.length : Int) ≤ 9223372036854775807 := by omega
    have e3 : (p : Int) ≤ 8 * (bs.length : Int) := by omega
    go_enter Tryd.func9, Tryd.ntmps9
    go_wp2
    go_quiet (fail)
    go_wp2
    go_ret
    exact ⟨rfl, _, rfl⟩
  · go_enter Tryd.func9, Tryd.ntmps9
    go_wp2
    go_ret
    exact ⟨rfl, 0, rfl⟩


theorem emod_shift (x z a b : Int) (hx : 0 ≤ x) (hxa : x < a) (hb : 0 < b) : (x + z * a) % (a * b) = x + z % b * a := by
  have ha : 0 < a := by omega
  have h1 : z * a = z % b * a + a * b * (z / b) := by
    have := Int.emod_add_mul_ediv z b
    calc z * a = (z % b + b * (z / b)) * a := by rw [this]
      _ = _ := by rw [Int.add_mul, Int.mul_comm a b, Int.mul_right_comm]
  have h2 : 0 ≤ z % b := Int.emod_nonneg _ (by omega)
  have h3 : z % b < b := Int.emod_lt_of_pos _ hb
  have h4 : z % b * a ≤ (b - 1) * a := Int.mul_le_mul_of_nonneg_right (by omega) (by omega)
  have h5 : (b - 1) * a = a * b - a := by rw [Int.sub_mul, Int.one_mul, Int.mul_comm]
  have h6 : 0 ≤ z % b * a := Int.mul_nonneg h2 (by omega)
  rw [h1, ← Int.add_assoc, Int.add_mul_emod_self_left, Int.emod_eq_of_lt (by omega) (by omega)]

theorem wrap_u64_in (n : Int) (h0 : 0 ≤ n) (h1 : n < 18446744073709551616) : IntKind.u64.wrap n = n := by
  simp [IntKind.wrap, IntKind.bits, IntKind.signed]; omega
theorem wraps_u64' (n : Int) (h0 : 0 ≤ n) (h1 : n < 2 ^ 64) : IntKind.u64.wrap n = n := wrap_u64_in n h0 (by omega)
theorem pow_mono_int {a b : Nat} (h : a ≤ b) : (2 : Int) ^ a ≤ 2 ^ b := by exact_mod_cast Nat.pow_le_pow_right (by decide) h
theorem pow_pos_int (a : Nat) : (0 : Int) < 2 ^ a := by exact_mod_cast Nat.two_pow_pos a

theorem or_join_u64 (x z : Int) (j : Nat) (hx : 0 ≤ x) (hxj : x < 2 ^ j) (hz : 0 ≤ z) (h : z * 2 ^ j < 2 ^ 64) (hj : j ≤ 64) : bits .or .u64 x (z * 2 ^ j) = x + z * 2 ^ j := by
  have hp := pow_mono_int hj
  obtain ⟨a, rfl⟩ := Int.eq_ofNat_of_zero_le hx
  obtain ⟨b, rfl⟩ := Int.eq_ofNat_of_zero_le hz
  have hc : (b : Int) * 2 ^ j = ((b * 2 ^ j : Nat) : Int) := by simp
  rw [hc] at h ⊢
  have ha' : a < 2 ^ j := by exact_mod_cast hxj
  have h3 : (a : Int) < 2 ^ 64 := by omega
  have h1 := (bits_nat .u64 64 (by decide) wraps_u64' a (b * 2 ^ j) (by exact_mod_cast h3) (by exact_mod_cast h)).2
  rw [h1, ← Nat.shiftLeft_eq, or_shift a b j ha']
  simp [Nat.shiftLeft_eq]

theorem bits_round (bs : List Int) (p j k t : Nat) (x y : Int) (hb : 0 ≤ y ∧ y ≤ 255) (hy : y = bs[(p + j) / 8]?.getD 0) (hj : j < k) (hk : k ≤ 32) (ht : t ≤ 8 - (p + j) % 8) (_ht2 : t ≤ k - j) (ht3 : t = 8 - (p + j) % 8 ∨ t = k - j) (hx : x = bitsVal bs p j) :
    let x' := bits BinOp.or IntKind.u64 x (IntKind.u64.wrap (IntKind.u64.wrap (y / 2 ^ ((p + j) % 8)) * 2 ^ j))
    0 ≤ x' ∧ x' < 2 ^ 40 ∧ x' % 2 ^ (j + t) = bitsVal bs p (j + t) ∧ (j + t < k → x' = bitsVal bs p (j + t)) := by
  have hr : (p + j) % 8 < 8 := Nat.mod_lt _ (by decide)
  have hx0 := bitsVal_nonneg bs p j
  have hx1 := bitsVal_lt bs p j
  have hP := pow_pos_int ((p + j) % 8)
  have hz0 : 0 ≤ y / 2 ^ ((p + j) % 8) := Int.ediv_nonneg hb.1 (by omega)
  have hz1 : y / 2 ^ ((p + j) % 8) < 2 ^ (8 - (p + j) % 8) := by
    refine Int.ediv_lt_of_lt_mul hP ?_
    rw [← Int.pow_add, show 8 - (p + j) % 8 + (p + j) % 8 = 8 from by omega]
    omega
  have hbv := bitsVal_byte bs (p + j) t (by omega)
  rw [← hy] at hbv
  generalize y / 2 ^ ((p + j) % 8) = z at *
  have hz2 : z < 256 := Int.lt_of_lt_of_le hz1 (by have := pow_mono_int (show 8 - (p + j) % 8 ≤ 8 from by omega); omega)
  have hJ := pow_pos_int j
  have hJ2 : (2 : Int) ^ j ≤ 2147483648 := pow_mono_int (show j ≤ 31 from by omega)
  have hm0 : 0 ≤ z * 2 ^ j := Int.mul_nonneg hz0 (by omega)
  have hm1 : z * 2 ^ j ≤ 255 * 2147483648 := Int.le_trans (Int.mul_le_mul_of_nonneg_right (by omega) (by omega)) (Int.mul_le_mul_of_nonneg_left hJ2 (by omega))
  rw [wrap_u64_in z hz0 (by omega), wrap_u64_in _ hm0 (by omega), or_join_u64 x z j (by omega) (by omega) hz0 (by omega) (by omega)]
  have hT := pow_pos_int t
  refine ⟨by omega, by omega, ?_, fun h => ?_⟩
  · rw [Int.pow_add, emod_shift x z _ _ (by omega) (by omega) hT, bitsVal_add, hbv, hx]
  · have h8 : t = 8 - (p + j) % 8 := by omega
    rw [bitsVal_add, hbv, ← hx, h8, Int.emod_eq_of_lt hz0 hz1]
theorem bits_final (bs : List Int) (p k : Nat) (x : Int) (_hk : 0 < k) (hk2 : k ≤ 32) (hx0 : 0 ≤ x) (hx1 : x < 2 ^ 40) (hx : x % 2 ^ k = bitsVal bs p k) :
    bits BinOp.and IntKind.u64 x (IntKind.u64.wrap (IntKind.u64.wrap (2 ^ k) - 1)) % 4294967296 = bitsVal bs p k := by
  have h1 := pow_pos_int k
  have h2 : (2 : Int) ^ k ≤ 4294967296 := pow_mono_int hk2
  rw [wrap_u64_in (2 ^ k) (by omega) (by omega), wrap_u64_in _ (by omega) (by omega), bits_mask .u64 64 (by decide) wraps_u64' k (by omega) x hx0 (by omega), hx]
  have := bitsVal_nonneg bs p k
  have := bitsVal_lt bs p k
  omega

set_option maxHeartbeats 1000000 in
theorem bits_any (g : Nat) (A : Option Addr) (bs : List Int) (p : Nat) (k : Nat) (w : World) (hp : p + k ≤ 8 * bs.length) (hk : 0 < k) (hk2 : k ≤ 32) (h : Rdr w g A bs p false) :
    Calls Tryd.prog 31 #[.pointer (some ⟨g, 0, none⟩), .int .i64 k] w fun e w' => e = .returned (.tuple #[.int .u32 (bitsVal bs p k), .int .i64 0]) ∧ Rdr w' g A bs (p + k) false ∧ Mods [g] w w' := by
  have H := Lib.hid h
  have e2 : ((k : Int) == 0) = false := by simp; omega
  have e1 : (k : Int) ≤ 8 * (bs.length : Int) - (p : Int) := by omega
  clear h
  go_enter Tryd.func31, Tryd.ntmps31
  go_wp2_with (go_at_call 9; refine (left_any g A bs p false _ H.out).mono ?_; rintro e w' ⟨rfl, nq, rfl⟩)
  go_loopw [6, 7] (fun v i wr => ∃ j : Nat, j ≤ k ∧ i = .int .i64 j ∧ (∃ x : Int, v = .int .u64 x ∧ 0 ≤ x ∧ x < 2 ^ 40 ∧ x % 2 ^ j = bitsVal bs p j ∧ (j < k → x = bitsVal bs p j)) ∧ Rdr wr g A bs (p + j) false ∧ Mods [g] w wr) (fun _ i _ => k - (intOf i).toNat)
  case atStart => exact ⟨0, by omega, rfl, ⟨0, rfl, by omega, by omega, by simp [bitsVal, Int.emod_one], fun _ => rfl⟩, H.out.drewN _, (Mods.refl _ _).drewN _⟩
  case round =>
    obtain ⟨j, hj, rfl, ⟨x, rfl, hx0, hx1, hxm, hxe⟩, h, hM⟩ := hrel
    obtain ⟨hp', hl, hbx, ⟨c, hb⟩, hr, hn⟩ := h
    have h0 : wr.cell? ⟨g, 0, none⟩ = some (.slice A bs.length c) := cell_blk hb 0
    have h1 : wr.cell? ⟨g, 1, none⟩ = some (.int .i64 ((p + j : Nat) : Int)) := cell_blk hb 1
    have h2 : wr.cell? ⟨g, 2, none⟩ = some (.bool false) := cell_blk hb 2
    have f1 : wr.frozen? ⟨g, 1, none⟩ = false := free_blk hb 1
    have HB := Lib.hid hb; have HR := Lib.hid hr; have HN := Lib.hid hn; have HX := Lib.hid hbx; have HM := Lib.hid hM; have HXM := Lib.hid hxm; have HXE := Lib.hid hxe
    clear hb hr hn hbx hM hxm hxe
    by_cases hlt : j < k
    · obtain ⟨ad, hA, hcell⟩ := ReadsInt.at_ HR.out ((((p + j : Nat) : Int)) / 8) (by omega) (by omega)
      have hq : ((((p + j : Nat) : Int)) / 8).toNat = (p + j) / 8 := by omega
      rw [hq] at hcell
      rw [hA] at h0
      have HA := Lib.hid hA; clear hA
      have hyb : 0 ≤ rd bs (((p + j : Nat) : Int) / 8) ∧ rd bs (((p + j : Nat) : Int) / 8) ≤ 255 := HX.out _ (by unfold rd; rw [hq, List.getD_eq_getElem?_getD, List.getElem?_eq_getElem (by omega)]; exact List.getElem_mem _)
      have hye : rd bs (((p + j : Nat) : Int) / 8) = bs[(p + j) / 8]?.getD 0 := by unfold rd; rw [hq, List.getD_eq_getElem?_getD]
      obtain ⟨t, ht, ht1, ht2, ht3⟩ : ∃ t : Nat, (if (k : Int) - (j : Int) < 8 - ((p : Int) + (j : Int)) % 8 then (k : Int) - (j : Int) else 8 - ((p : Int) + (j : Int)) % 8) = (t : Int) ∧ t ≤ 8 - (p + j) % 8 ∧ t ≤ k - j ∧ (t = 8 - (p + j) % 8 ∨ t = k - j) := ⟨min (k - j) (8 - (p + j) % 8), by split <;> omega, by omega, by omega, by omega⟩
      have hstep := bits_round bs p j k t x _ hyb hye hlt hk2 ht1 ht2 ht3 (HXE.out hlt)
      have HS := Lib.hid hstep; have HT := Lib.hid ht; have HT3 := Lib.hid ht3
      clear hstep ht hye ht3
      go_wp2
      go_quiet (fail)
      go_wp2
      go_roundw
      case rel =>
        have e := HT.out
        have hj2 : j + t ≤ k := by omega
        refine ⟨j + t, hj2, by rw [e]; rfl, ⟨_, rfl, ?_⟩, ?_, ?_⟩
        · have hcast : ((p : Int) + (j : Int)) / 8 = ((p + j : Nat) : Int) / 8 := by omega
          rw [hcast]; exact HS.out
        · refine ⟨by omega, hl, HX.out, ⟨c, ?_⟩, ?_, HN.out⟩
          · rw [e, blk_set (w := wr.drewN nq) (by rw [heap_drewN]; exact HB.out)]
            simp [← Int.natCast_add, Nat.add_assoc]
          · refine ReadsInt.mods HR.out (S := [g]) (((Mods.refl _ _).drewN _).setCell (by simp) _) ?_
            intro ad' h'; have := HN.out ad' h'; simpa using this
        · exact (HM.out.drewN _).setCell (by simp) _
      case measure =>
        have e := HT.out
        have h3 := HT3.out
        rw [e]; simp [intOf]; omega
    · have hjk : j = k := by omega
      have hfin := bits_final bs p k x hk hk2 hx0 hx1 (by rw [← hjk]; exact HXM.out)
      have HF := Lib.hid hfin; have HJK := Lib.hid hjk
      clear hfin hjk
      go_wp2
      go_ret2
      refine ⟨?_, ?_, HM.out⟩
      · show Ending.returned (.tuple #[.int .u32 _, .int .i64 0]) = _
        rw [HF.out]
      · rw [← HJK.out]
        exact ⟨hp', hl, HX.out, ⟨c, HB.out⟩, HR.out, HN.out⟩

/-- The same, the number under a name of its own. -/
theorem bits_to (v : Int) (g : Nat) (A : Option Addr) (bs : List Int) (p : Nat) (k : Nat) (w : World) (hv : Hid (bitsVal bs p k = v)) (hp : p + k ≤ 8 * bs.length) (hk : 0 < k) (hk2 : k ≤ 32) (h : Rdr w g A bs p false) :
    Calls Tryd.prog 31 #[.pointer (some ⟨g, 0, none⟩), .int .i64 k] w fun e w' => e = .returned (.tuple #[.int .u32 v, .int .i64 0]) ∧ Rdr w' g A bs (p + k) false ∧ Mods [g] w w' := by
  rw [← hv.out]
  exact bits_any g A bs p k w hp hk hk2 h

/-- No bits. -/
theorem bits_zero (g : Nat) (w : World) : Calls Tryd.prog 31 #[.pointer (some ⟨g, 0, none⟩), .int .i64 0] w fun e w' => e = .returned (.tuple #[.int .u32 0, .int .i64 0]) ∧ w = w' := by
  go_enter Tryd.func31, Tryd.ntmps31
  go_wp2
  go_ret2
  exact ⟨rfl, rfl⟩

set_option maxHeartbeats 400000 in
/-- Bits that run out. -/
theorem bits_out (g : Nat) (A : Option Addr) (bs : List Int) (p : Nat) (o : Bool) (k : Nat) (w : World) (hp : o = true ∨ 8 * bs.length < p + k) (hk : 0 < k) (hk2 : k ≤ 32) (h : Rdr w g A bs p o) :
    Calls Tryd.prog 31 #[.pointer (some ⟨g, 0, none⟩), .int .i64 k] w fun e w' => e = .returned (.tuple #[.int .u32 0, .int .i64 2]) ∧ Rdr w' g A bs p true ∧ Mods [g] w w' := by
  have H := Lib.hid h
  have e2 : ((k : Int) == 0) = false := by simp; omega
  have e1 : (if o then (0 : Int) else 8 * bs.length - p) < (k : Int) := by split <;> (rename_i h'; try simp [h'] at hp) <;> omega
  clear hp
  obtain ⟨hp', hl, hbx, ⟨c, hb⟩, hr, hn⟩ := h
  have h2 : w.cell? ⟨g, 2, none⟩ = some (.bool o) := cell_blk hb 2
  have f2 : w.frozen? ⟨g, 2, none⟩ = false := free_blk hb 2
  have HB := Lib.hid hb; have HR := Lib.hid hr; have HN := Lib.hid hn; have HX := Lib.hid hbx
  clear hb hr hn hbx
  generalize hq : (if o then (0 : Int) else 8 * bs.length - p) = q at e1
  have HQ := Lib.hid hq; clear hq
  go_enter Tryd.func31, Tryd.ntmps31
  go_wp2_with (go_at_call 9; refine (left_any g A bs p o _ H.out).mono ?_; rw [HQ.out]; rintro e w' ⟨rfl, nq, rfl⟩)
  go_ret2
  refine ⟨rfl, ⟨hp', hl, HX.out, ⟨c, ?_⟩, ?_, HN.out⟩, ((Mods.refl _ _).drewN _).setCell (by simp) _⟩
  · rw [blk_set (w := w.drewN _) (by rw [heap_drewN]; exact HB.out)]
    simp
  · refine ReadsInt.mods HR.out (S := [g]) (((Mods.refl _ _).drewN _).setCell (by simp) _) ?_
    intro ad' h'; have := HN.out ad' h'; simpa using this


set_option maxHeartbeats 400000 in
theorem newReader2 (A : Option Addr) (n c : Nat) (bs : List Int) (w : World) (HR : ReadsInt w .u8 A n bs) (hb : ∀ x ∈ bs, 0 ≤ x ∧ x ≤ 255) (hn : n ≤ 140737488351232) :
    Calls Tryd.prog 7 #[.slice A n c] w fun e w' => ∃ g A', e = .returned (.pointer (some ⟨g, 0, none⟩)) ∧ w.heap.size ≤ g ∧ (∀ ad, A' = some ad → w.heap.size ≤ ad.block) ∧ (∀ ad, A' = some ad → ad.block < w'.heap.size) ∧ Rdr w' g A' bs 0 false ∧ Below w.heap.size w w' := by
  have HR := Lib.hid HR; have HX := Lib.hid hb
  clear hb
  go_enter Tryd.func7, Tryd.ntmps7
  go_wp2_with (at_builtin; refine print_append_row w.heap.size rfl _ _ 23 5 .u8 1 rfl Tryd.underlying23 info_u8 (by decide) _ [] bs A n c rfl rfl (own_nil _ _ _ _) HR.out (Below.refl _ _) (Nat.le_refl _) ?hl ?_)
  case hl => simp; omega
  intro v1 w1 hown hB hg hat
  obtain ⟨A1, c1, rfl, hr1⟩ := own_reads hown
  have HO := Lib.hid hown; have HB := Lib.hid hB; have HR1 := Lib.hid hr1
  clear hown hB hr1 hg hat
  go_wp2
  go_ret
  have hfr : ∀ ad, A1 = some ad → w.heap.size ≤ ad.block := fun ad h => own_base HO.out ad.block (by rw [h]; rfl)
  have hlt : ∀ ad, A1 = some ad → ad.block < w1.heap.size := fun ad h => own_lt HO.out ad.block (by rw [h]; rfl)
  refine ⟨w1.heap.size, A1, rfl, HB.out.size, hfr, fun ad h => by have := hlt ad h; simp; omega, ⟨by omega, by have := HR.out.1; omega, HX.out, ⟨c1, blk_alloc _⟩, ?_, fun ad h => ?_⟩, HB.out.alloc HB.out.size _⟩
  · exact ReadsInt.mods HR1.out (S := []) ((Mods.refl _ _).alloc _) (by simp)
  · have := hlt ad h; omega
theorem newReader (A : Option Addr) (n c : Nat) (bs : List Int) (w : World) (HR : ReadsInt w .u8 A n bs) (hb : ∀ x ∈ bs, 0 ≤ x ∧ x ≤ 255) (hn : n ≤ 140737488351232) :
    Calls Tryd.prog 7 #[.slice A n c] w fun e w' => ∃ g A', e = .returned (.pointer (some ⟨g, 0, none⟩)) ∧ w.heap.size ≤ g ∧ (∀ ad, A' = some ad → w.heap.size ≤ ad.block) ∧ Rdr w' g A' bs 0 false ∧ Below w.heap.size w w' :=
  (newReader2 A n c bs w HR hb hn).mono fun _ _ ⟨g, A', h1, h2, h3, _, h5, h6⟩ => ⟨g, A', h1, h2, h3, h5, h6⟩
end Go.Proofs.YtfeloicmkcfinaaDoor
