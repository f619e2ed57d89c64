/- What package tree does: writing. -/
import Derived.Test.YtfeloicmkcfinaaDoorTree3
import Derived.Test.YtfeloicmkcfinaaDoorBitout
namespace Go.Proofs.YtfeloicmkcfinaaDoor
open Go.RowKit
open Go.Proofs.YtfeloicmkcfinaaDoorW.PrintWords
open Srt

/-- A code's n bits, the first one highest. -/
def codeBits (v : Int) (n : Nat) : List Int := (List.range n).map (fun k => v / 2 ^ (n - 1 - k) % 2)
def codeUp (v : Int) (n j : Nat) : List Int := (List.range j).map (fun k => v / 2 ^ (n - 1 - k) % 2)
theorem codeUp_succ (v : Int) (n j : Nat) : codeUp v n (j + 1) = codeUp v n j ++ [v / 2 ^ (n - 1 - j) % 2] := by simp [codeUp, List.range_succ]
theorem codeUp_length (v : Int) (n j : Nat) : (codeUp v n j).length = j := by simp [codeUp]
theorem bitsOf_one (x : Int) (h : 0 ≤ x ∧ x ≤ 1) : bitsOf x 1 = [x] := by
  show [x / 2 ^ 0 % 2] = [x]
  congr 1
  omega

set_option maxHeartbeats 400000 in
theorem write_nil (g : Nat) (s : Int) (w : World) :
    Calls Tryd.prog 24 #[.pointer none, .pointer (some ⟨g, 0, none⟩), .int .i64 s] w fun e w' => e = .returned (.bool false) ∧ w = w' := by
  go_enter Tryd.func24, Tryd.ntmps24
  go_wp2_with (go_at_call 23; refine (cost_nil s w).mono ?_; rintro e w' ⟨rfl, rfl⟩)
  go_ret
  exact ⟨rfl, rfl⟩
set_option maxHeartbeats 400000 in
theorem write_not (B hi g : Nat) (ls os : List Int) (s : Int) (w : World) (ht : IsTree w B hi ls os) (hs : hasS ls s = false) :
    Calls Tryd.prog 24 #[.pointer (some ⟨B, 0, none⟩), .pointer (some ⟨g, 0, none⟩), .int .i64 s] w fun e w' => e = .returned (.bool false) ∧ w = w' := by
  have HT := Lib.hid ht; have HS := Lib.hid hs
  clear ht hs
  go_enter Tryd.func24, Tryd.ntmps24
  go_wp2_with (go_at_call 23; refine (cost_any B hi ls os s w HT.out).mono ?_; rintro e w' ⟨rfl, rfl⟩; rw [HS.out])
  go_ret
  exact ⟨rfl, rfl⟩
theorem w_bit (g : Nat) (v : Value) (l : List Int) (x : Int) (w : World) (h : Wtr w g v l) (hx : 0 ≤ x ∧ x ≤ 1) (hl : l.length + 1 ≤ 140737488351232) :
    Calls Tryd.prog 25 #[.pointer (some ⟨g, 0, none⟩), .int .u32 x, .int .i64 1] w fun e w' => e = .returned (.bool true) ∧ ∃ v', Wtr w' g v' (l ++ [x]) ∧ Mods (g :: rows v) w w' ∧ (v'.ownBlock = v.ownBlock ∨ ∃ b, v'.ownBlock = some b ∧ w.heap.size ≤ b) := by
  have h1 := w_bits g v l x 1 w h (by omega) ⟨hx.1, by omega⟩ hl
  rw [bitsOf_one x hx] at h1
  exact h1

set_option maxHeartbeats 1000000 in
theorem write_any (B hi g : Nat) (ls os : List Int) (v : Value) (l : List Int) (s : Nat) (w : World) (ht : IsTree w B hi ls os) (hs : hasS ls s = true) (h : Wtr w g v l) (hg : hi ≤ g) (hl : l.length + 15 ≤ 140737488351232) (hvb : ∀ b, v.ownBlock = some b → hi ≤ b) :
    Calls Tryd.prog 24 #[.pointer (some ⟨B, 0, none⟩), .pointer (some ⟨g, 0, none⟩), .int .i64 s] w fun e w' => e = .returned (.bool true) ∧ ∃ v', Wtr w' g v' (l ++ codeBits (codeS ls s) (costS ls s).toNat) ∧ Mods (g :: rows v) w w' ∧ (v'.ownBlock = v.ownBlock ∨ ∃ b, v'.ownBlock = some b ∧ w.heap.size ≤ b) := by
  have HT := Lib.hid ht; have HS := Lib.hid hs; have H := Lib.hid h; have HV := Lib.hid hvb
  have hc := ht.2.2.2.1
  have hsl : s < ls.length ∧ 0 < ln ls s := by unfold hasS at hs; rw [Int.toNat_natCast] at hs; simp at hs; exact hs
  obtain ⟨hl0, hl1⟩ := (complete hc).1 s
  obtain ⟨hsl, hp⟩ := hsl
  obtain ⟨n, hn⟩ : ∃ n : Nat, costS ls s = n := Int.eq_ofNat_of_zero_le (by unfold costS; rw [hs, Int.toNat_natCast]; simp; split <;> omega)
  have hn15 : n ≤ 15 := by unfold costS at hn; rw [hs, Int.toNat_natCast] at hn; simp at hn; split at hn <;> omega
  have HCO := Lib.hid hn
  rw [hn, Int.toNat_natCast]
  have hcb := code_le hc s
  have HC := Lib.hid hc; have HP := Lib.hid hp
  have hgl : hi ≤ w.heap.size := ht.2.1
  clear ht hs h hvb hn hc hp
  go_enter Tryd.func24, Tryd.ntmps24
  go_wp2_with (go_at_call 23; refine (cost_any B hi ls os s w HT.out).mono ?_; rintro e w' ⟨rfl, rfl⟩; rw [HS.out, HCO.out])
  have hgo : Calls Tryd.prog 24 #[] w (fun _ _ => True) → True := fun _ => trivial
  clear hgo
  go_loopw [9] (fun i wr => ∃ r : Nat, r ≤ n ∧ i = .int .i64 ((r : Int) - 1) ∧ Hid (∃ v', Wtr wr g v' (l ++ codeUp (codeS ls s) n (n - r)) ∧ Mods (g :: rows v) w wr ∧ (v'.ownBlock = v.ownBlock ∨ ∃ b, v'.ownBlock = some b ∧ w.heap.size ≤ b))) (fun i _ => (intOf i + 1).toNat)
  case atStart => exact ⟨n, by omega, rfl, v, by rw [Nat.sub_self, show codeUp (codeS ls s) n 0 = [] from rfl, List.append_nil]; exact H.out, Mods.refl _ _, .inl rfl⟩
  case round =>
    obtain ⟨r, hr, rfl, HX⟩ := hrel
    by_cases hr0 : r = 0
    · subst hr0
      have hd : decide ((0 : Int) ≤ ((0 : Nat) : Int) - 1) = false := by decide
      go_wp2_with fail
      go_ret
      exact ⟨rfl, HX.out⟩
    · obtain ⟨m, rfl⟩ : ∃ m, r = m + 1 := ⟨r - 1, by omega⟩
      rw [show (((m + 1 : Nat) : Int)) - 1 = (m : Int) from by omega]
      obtain ⟨v1, hv1, hm1, ha1⟩ := HX.out
      have hsS : ∀ b ∈ g :: rows v, hi ≤ b := by
        intro b hb
        rcases List.mem_cons.1 hb with rfl | hb
        · exact hg
        · exact HV.out b (by simpa [rows] using hb)
      have ht := HT.out.mods hm1 hsS
      obtain ⟨_, _, hlb, _, _, Al, cl, Ac, cc, Ao, co, hk, _, r2, _, _, _, _⟩ := ht
      have hcc : wr.cell? ⟨B, 1, none⟩ = some (.slice Ac ls.length cc) := by rw [cell_blk hk]; rfl
      obtain ⟨ad, hA, hcell⟩ := ReadsInt.at_ r2 (s : Int) (by omega) (by omega)
      have hcode : rd (codesS ls) (s : Int) = codeS ls s := by
        unfold rd; rw [Int.toNat_natCast, List.getD_eq_getElem?_getD, codesS_get _ _ hsl, if_pos HP.out]; rfl
      rw [hcode, Int.toNat_natCast] at hcell
      subst hA
      have hsi : (s : Int) < (ls.length : Int) := by omega
      have hst : ((s : Int)).toNat = s := by omega
      have HV1 := Lib.hid hv1; have HM1 := Lib.hid hm1; have HA1 := Lib.hid ha1
      have hq0 : 0 ≤ codeS ls s / 2 ^ m := Int.ediv_nonneg hcb.1 (by exact_mod_cast Nat.zero_le _)
      have hq1 : codeS ls s / 2 ^ m ≤ codeS ls s := Int.ediv_le_self _ hcb.1
      have hand : bits BinOp.and .u32 (codeS ls s / 2 ^ m) 1 = codeS ls s / 2 ^ m % 2 := and_one _ ⟨hq0, by omega⟩
      clear hv1 hm1 ha1 HX hk r2 hcode hsS
      go_wp2_with fail
      refine (w_bit g v1 _ (codeS ls s / 2 ^ m % 2) wr HV1.out (by omega) (by rw [List.length_append, codeUp_length]; omega)).mono ?_
      rintro e w2 ⟨rfl, v2, hv2, hm2, ha2⟩
      have HX2 : Hid (∃ v', Wtr w2 g v' (l ++ codeUp (codeS ls s) n (n - m)) ∧ Mods (g :: rows v) w w2 ∧ (v'.ownBlock = v.ownBlock ∨ ∃ b, v'.ownBlock = some b ∧ w.heap.size ≤ b)) := by
        refine ⟨v2, ?_, HM1.out.trans_new hm2 (fun r hr => ?_), ?_⟩
        · have e1 : n - m = (n - (m + 1)) + 1 := by omega
          have e2 : n - 1 - (n - (m + 1)) = m := by omega
          rw [e1, codeUp_succ, e2, ← List.append_assoc]; exact hv2
        · rcases List.mem_cons.1 hr with rfl | hr
          · exact .inl (by simp)
          · have hr' : v1.ownBlock = some r := by simpa [rows] using hr
            rcases HA1.out with h | ⟨b, h, hb⟩
            · exact .inl (by simp [rows, ← h, hr'])
            · rw [hr'] at h; cases h; exact .inr hb
        · rcases ha2 with h | ⟨b, h, hb⟩
          · rw [h]; exact HA1.out
          · exact .inr ⟨b, h, by have := HM1.out.size; omega⟩
      clear hv2 hm2 ha2
      go_wp2_with fail
      go_roundw
      case rel => exact ⟨m, by omega, by go_num, HX2.out⟩
      case measure => simp [intOf]
end Go.Proofs.YtfeloicmkcfinaaDoor
