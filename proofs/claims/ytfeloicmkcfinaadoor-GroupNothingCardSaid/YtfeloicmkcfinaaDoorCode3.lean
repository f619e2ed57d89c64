/- What code.Codes does. -/
import Derived.Test.YtfeloicmkcfinaaDoorCode2
import Derived.Test.YtfeloicmkcfinaaDoorCodeP3
namespace Go.Proofs.YtfeloicmkcfinaaDoor
open Go.RowKit
open Go.Proofs.YtfeloicmkcfinaaDoorW.PrintWords
open Srt

/-- What code.Codes answers. -/
def CodesPost (ls : List Int) (w : World) (e : Ending) (w' : World) : Prop :=
  Below w.heap.size w w' ∧ ∃ v, e = .returned v ∧ (checkS ls ≠ 0 → v = .slice none 0 0) ∧ (checkS ls = 0 → w'.ownsRow w.heap.size 22 1 v ls.length (nums .u32 (codesS ls)))

set_option maxHeartbeats 2000000 in
theorem codes_any (A : Option Addr) (n c : Nat) (ls : List Int) (w : World) (HR : ReadsInt w .i64 A n ls) (hn : n ≤ 17592186044416) :
    Calls Tryd.prog 27 #[.slice A n c] w (CodesPost ls w) := by
  have HRR := Lib.hid HR; have HL := Lib.hid HR.1
  clear HR
  have hmk := print_make (P := Tryd.prog) 75 22 .u32 4 Tryd.underlying75 info_u32 (by decide) n (by omega)
  by_cases hc : checkS ls = 0
  · have HC := Lib.hid hc
    have hcb : (checkS ls != 0) = false := by simp [hc]
    clear hc
    go_enter Tryd.func27, Tryd.ntmps27
    go_wp2_with (go_at_call 26; refine (check_any A n c ls w HRR.out hn).mono ?_; rintro e w' ⟨rfl, rfl⟩)
    have hO0 : ((w.alloc (.cells (madeCells #[.int .u32 0] n) 22)).ownsRow w.heap.size 22 1 (.slice (some ⟨w.heap.size, 0, none⟩) n n) n (nums .u32 (outAt ls []))) := by
      rw [outAt_nil, HL.out]; exact own_made w w.heap.size 22 .u32 n (Nat.le_refl _) (by omega)
    have HO0 := Lib.hid hO0
    have HB0 := Lib.hid ((Below.refl w.heap.size w).alloc (Nat.le_refl _) (.cells (madeCells #[.int .u32 0] n) 22))
    have HSZ := Lib.hid (show (w.alloc (.cells (madeCells #[.int .u32 0] n) 22)).heap.size = w.heap.size + 1 from by simp)
    clear hO0 hmk
    generalize hw1 : w.alloc (.cells (madeCells #[.int .u32 0] n) 22) = w1 at *
    generalize hg : w.heap.size = g at *
    have HW1 := Lib.hid hw1; have HG := Lib.hid hg
    clear hw1 hg
    have hR1 : ReadsInt w1 .i64 A n ls := HRR.out.below (by rw [HG.out]; exact HB0.out)
    have hv : ∀ x ∈ ls, x ≤ 9223372036854775807 := fun x hx => by
      obtain ⟨i, hi, rfl⟩ := List.getElem_of_mem hx
      have := (complete HC.out).1 i
      rw [ln_get hi] at this; omega
    refine (order_any A n c ls w1 hR1 hn hv).mono ?_
    clear hR1 hv
    rintro e w2 ⟨hB2, v, os, rfl, hin, hown⟩
    have hlen : os.length ≤ n := by
      have h1 := (FEq.perm hin.2).length_eq
      have h2 := posUp_le ls ls.length
      have h3 := HL.out
      unfold posList at h1; omega
    obtain ⟨A2, c2, rfl, hR2⟩ := own_reads hown
    have HA2 := Lib.hid (show ∀ ad, A2 = some ad → ad.block ∉ [g] from fun ad e => by
      have := own_base hown ad.block (by rw [e]; rfl)
      have := HSZ.out
      simp; omega)
    have HB2 := Lib.hid (HB0.out.trans (hB2.mono (by rw [HSZ.out]; omega)))
    have HIN := Lib.hid hin; have HR2 := Lib.hid hR2
    have HO2 := Lib.hid (pw_own_below HO0.out hB2)
    have hs2 : g + 1 ≤ w2.heap.size := by have := hB2.size; rw [HSZ.out] at this; exact this
    clear hin hR2 hown hB2 hs2
    go_wp2_with fail
    go_loopw [4, 5, 6, 7, 17] (fun nt lt' s' i' i wr => ∃ k : Nat, k ≤ os.length ∧ i = .int .i64 k ∧ nt = .int .u32 (nx ls os k) ∧ lt' = .int .i64 (la ls os k) ∧ Hid (wr.ownsRow g 22 1 (.slice (some ⟨g, 0, none⟩) n n) n (nums .u32 (outAt ls (os.take k)))) ∧ Hid (Mods [g] w2 wr)) (fun _ _ _ _ i _ => os.length - (intOf i).toNat)
    case atStart => exact ⟨0, by omega, rfl, rfl, rfl, HO2.out, Mods.refl _ _⟩
    case round =>
      obtain ⟨k, hk, rfl, rfl, rfl, HO, HM⟩ := hrel
      by_cases hlt : k < os.length
      · obtain ⟨e1, hs, hp⟩ := sy_cast HIN.out hlt
        obtain ⟨ad, hA, hcell0⟩ := ReadsInt.at_ (ReadsInt.mods HR2.out HM.out HA2.out) (k : Int) (by omega) (by omega)
        rw [Int.toNat_natCast, e1] at hcell0
        have hL0 := HL.out
        obtain ⟨bd, hB, hcellb⟩ := ReadsInt.at_ HRR.out (sy os k : Int) (by omega) (by omega)
        have hbw : Below g w wr := Below.then_mods HB2.out (by have := HB2.out.size; rw [HG.out] at this; exact this) HM.out (by simp)
        have hcell1 := pw_cell_below (w1 := wr) (by rw [HG.out]; exact hbw) hcellb
        rw [Int.toNat_natCast, rd_ln] at hcell1
        clear hcellb hbw
        obtain ⟨hc1, hf1⟩ := own_at HO.out (sy os k : Int) (by omega) (by omega)
        rw [Int.toNat_natCast] at hc1 hf1
        have hrow : (wr.setCell ⟨g, sy os k, none⟩ (.int .u32 (nx ls os (k + 1)))).ownsRow g 22 1 (.slice (some ⟨g, 0, none⟩) n n) n (nums .u32 (outAt ls (os.take (k + 1)))) := by
          have h := (own_store HO.out (sy os k : Int) (nx ls os (k + 1))).1
          rw [Int.toNat_natCast] at h
          have e3 : (outAt ls (os.take k)).set (sy os k) (nx ls os (k + 1)) = outAt ls (os.take (k + 1)) := by
            show (outAt ls (os.take k)).set (sy os k) (codeS ls (sy os k)) = _
            rw [outAt_set _ _ _ hs, ← e1, rd_get hlt, List.take_add_one, List.getElem?_eq_getElem hlt]; rfl
          rw [e3] at h; exact h
        have HROW := Lib.hid hrow
        have HMB := Lib.hid (HM.out.setCell (p := ⟨g, sy os k, none⟩) (.inl (by simp)) (.int .u32 (nx ls os (k + 1))))
        have hx1 := nx_le HC.out os k
        have hx2 := nx_le HC.out os (k + 1)
        have hl1 := la_le HC.out os k
        have hl2 := la_le HC.out os (k + 1)
        have hstep := nx_next HIN.out hlt
        have hnil : k = 0 → nx ls os (k + 1) = 0 := fun e => by subst e; exact nx_first HIN.out (by omega)
        have HL1 := Lib.hid (show la ls os (k + 1) = ln ls (sy os k) from rfl)
        rw [show ln ls (sy os k) = la ls os (k + 1) from rfl] at hcell1 hp
        generalize hX : nx ls os k = X at *
        generalize hX' : nx ls os (k + 1) = X' at *
        generalize hY : la ls os k = Y at *
        generalize hY' : la ls os (k + 1) = Y' at *
        generalize hS : sy os k = S at *
        have H1 := Lib.hid hX; have H2 := Lib.hid hX'; have H3 := Lib.hid hY; have H4 := Lib.hid hY'
        clear hX hX' hY hY' hrow e1 hS
        subst hA
        subst hB
        by_cases hk0 : k = 0
        · have hX0 : X' = 0 := hnil hk0
          have hX1 : X = 0 := by rw [← H1.out, hk0]; rfl
          subst hX0
          subst hX1
          have hk1 : decide (0 < k) = false := by simp [hk0]
          clear hstep hnil hk0
          go_wp2_with fail
          go_roundw
          case rel => exact ⟨k + 1, by omega, by go_num, by rw [H2.out], by rw [H4.out], HROW.out, HMB.out⟩
          case measure => simp [intOf]; omega
        · obtain ⟨hle, hxe⟩ := hstep (by omega)
          clear hstep hnil
          have HXE := Lib.hid hxe
          clear hxe
          have hmod : (X + 1) * 2 ^ (Y' - Y).toNat % 4294967296 = X' := by rw [← HXE.out]; omega
          have HMOD := Lib.hid hmod
          clear hmod
          go_wp2_with fail
          rw [HMOD.out]
          go_roundw
          case rel => exact ⟨k + 1, by omega, by go_num, by rw [H2.out], by rw [H4.out], HROW.out, HMB.out⟩
          case measure => simp [intOf]; omega
      · obtain rfl : k = os.length := by omega
        have hb : Below g w wr := Below.then_mods HB2.out (by have := HB2.out.size; rw [HG.out] at this; exact this) HM.out (by simp)
        have HBB := Lib.hid hb
        have HOO := Lib.hid (show wr.ownsRow g 22 1 (.slice (some ⟨g, 0, none⟩) n n) n (nums .u32 (codesS ls)) from by
          have h := HO.out
          rw [List.take_length, outAt_done HIN.out] at h; exact h)
        clear hb
        go_wp2_with fail
        go_ret
        refine ⟨by rw [HG.out]; exact HBB.out, _, rfl, fun h => absurd HC.out h, fun _ => ?_⟩
        rw [HG.out, HL.out]; exact HOO.out
  · have HC := Lib.hid hc
    have hcb : (checkS ls != 0) = true := by simp [hc]
    clear hc
    go_enter Tryd.func27, Tryd.ntmps27
    go_wp2_with (go_at_call 26; refine (check_any A n c ls w HRR.out hn).mono ?_; rintro e w' ⟨rfl, rfl⟩)
    go_ret
    exact ⟨Below.refl _ _, _, rfl, fun _ => rfl, fun h => absurd h HC.out⟩
end Go.Proofs.YtfeloicmkcfinaaDoor
