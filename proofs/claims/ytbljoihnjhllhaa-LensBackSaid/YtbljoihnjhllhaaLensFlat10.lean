/- lens.steps: lengths as steps. (Printed by gensteps.py.) -/
import Derived.Test.YtbljoihnjhllhaaLensFlat4
import Derived.Test.YtbljoihnjhllhaaLensFlat1
import Derived.Test.YtbljoihnjhllhaaLensFlat9
import Derived.Test.YtbljoihnjhllhaaLensFlat2
import Derived.Test.YtbljoihnjhllhaaLensFlat3
namespace Go.Proofs.Ytbljoihnjhllhaa
open Go.RowKit
open Go.Proofs.YtbljoihnjhllhaaW.PrintWords

/-- A row of steps. -/
def StR (w : World) (base : Nat) (v : Value) (l : List Lw.St) : Prop := w.ownsRow base 70 3 v l.length (stC l)
theorem stC_app (a b : List Lw.St) : stC (a ++ b) = stC a ++ stC b := by simp [stC]
theorem stC_one (l : List Lw.St) : ∀ u ∈ stC l, u.oneCell' = true := by
  intro u hu
  unfold stC at hu
  rw [List.mem_flatMap] at hu
  obtain ⟨st, _, h⟩ := hu
  simp at h
  rcases h with rfl | rfl | rfl <;> rfl
theorem nought_len (n : Nat) : (Lw.nought n).length ≤ n := by
  unfold Lw.nought
  split
  · simp
  · split <;> (simp; omega)
theorem own_drewN {w : World} {base n size : Nat} {e : TypeId} {v : Value} {xs : List Value} (h : w.ownsRow base e size v n xs) (k : Nat) : (w.drewN k).ownsRow base e size v n xs := pw_own_below h (pw_below_drewN (Below.refl _ _) k)
theorem own_someQ3 {w : World} {base n size : Nat} {e : TypeId} {v : Value} {xs : List Value} (h : w.ownsRow base e size v n xs) (hn : 0 < n) : ∃ g c, v = .slice (some ⟨g, 0, none⟩) n c ∧ base ≤ g := own_some2 h hn
theorem own_belowS {w w' : World} {base n size : Nat} {e : TypeId} {v : Value} {xs : List Value} (h : w.ownsRow base e size v n xs) (hb : Below w.heap.size w w') : w'.ownsRow base e size v n xs := pw_own_below h hb
theorem noughts_at (x : Int) (n : Nat) (w : World) (hx : x = n) (h : 1 ≤ n) (h2 : n ≤ 138) :
    Calls Try.prog 47 #[.int .i64 x] w fun e w' => ∃ v, e = .returned v ∧ w'.ownsRow w.heap.size 70 3 v (Lw.nought n).length (stC (Lw.nought n)) ∧ Below w.heap.size w w' := by
  subst hx; exact noughts_any n w h h2
theorem nought_some (n : Nat) (h : 1 ≤ n) : 0 < (Lw.nought n).length := by
  unfold Lw.nought
  split
  · simp; omega
  · split <;> simp
/-- A row with some more steps. -/
theorem StR.reads {w : World} {base : Nat} {g n c : Nat} {l : List Lw.St} (h : w.ownsRow base 70 3 (.slice (some ⟨g, 0, none⟩) n c) n (stC l)) : ∀ j u, (stC l)[j]? = some u → w.cell? ((⟨g, 0, none⟩ : Addr).add j) = some u := fun j u hj => World.ownsRow.cells h rfl j u hj
set_option maxRecDepth 100000 in
set_option maxHeartbeats 8000000 in
theorem steps_any07 (A : Option Addr) (n c : Nat) (ls : List Int) (w : World) (HR : ReadsInt w .i64 A n ls) (hx : ∀ x ∈ ls, 0 ≤ x ∧ x ≤ 15) (hn : n ≤ 4096) :
    Calls Try.prog 34 #[.slice A n c] w fun e w' => ∃ v, e = .returned v ∧ StR w' w.heap.size v (Lw.steps ls) ∧ Below w.heap.size w w' := by
  have HRR := Lib.hid HR; have HX := Lib.hid hx
  clear HR hx
  obtain ⟨i0, hi, hz0, hz1, hz2⟩ := info_parts info_step
  have HI := Lib.hid hi; have HZ0 := Lib.hid hz0; have HZ1 := Lib.hid hz1; have HZ2 := Lib.hid hz2
  clear hi hz0 hz1 hz2
  go_enter Try.func34, Try.ntmps34
  go_wp2_with fail
  go_loopw [3, 4, 5, 6, 7] (fun rv av _ _ _ wr => ∃ (j : Nat) (o : List Lw.St) (tv : Value), tv = rv ∧ j ≤ n ∧ o.length ≤ j ∧ av = .int .i64 j ∧ Hid (StR wr w.heap.size tv o) ∧ Hid (o ++ Lw.steps (ls.drop j) = Lw.steps ls) ∧ Hid (Below w.heap.size w wr)) (fun _ av _ _ _ _ => n - (intOf av).toNat)
  case atStart => exact ⟨0, [], _, rfl, by omega, Nat.le_refl _, rfl, Lib.hid (own_nil _ _ _ _), Lib.hid rfl, Lib.hid (Below.refl _ _)⟩
  case round =>
    obtain ⟨j, o, tv, htv, hj, hoj, rfl, HO, HS, HB⟩ := hrel
    subst htv
    have hln := HRR.out.1
    by_cases hlt : j < n
    · have d1 : decide ((j : Int) < (n : Int)) = true := decide_eq_true (by omega)
      obtain ⟨ad, hA, hcell⟩ := ReadsInt.at_ (HRR.out.below HB.out) (j : Int) (by omega) (by omega)
      rw [Int.toNat_natCast] at hcell
      subst hA
      obtain ⟨v, hv⟩ : ∃ v, rd ls (j : Int) = v := ⟨_, rfl⟩
      have hvb : 0 ≤ v ∧ v ≤ 15 := by
        rw [← hv]
        unfold rd
        rw [Int.toNat_natCast, List.getD_eq_getElem?_getD, List.getElem?_eq_getElem (by omega)]
        exact HX.out _ (List.getElem_mem _)
      have HV := Lib.hid hv
      rw [hv] at hcell
      have HLN := Lib.hid hln
      have HC := Lib.hid hcell
      clear hv hln
      obtain ⟨wo, hwo⟩ : ∃ wo : World, wo = wr := ⟨_, rfl⟩
      subst hwo
      go_wp2_with fail
      go_loopw [5] (fun mv wr2 => ∃ m : Nat, mv = .int .i64 ((m + 1 : Nat) : Int) ∧ j + m + 1 ≤ n ∧ m ≤ Lw.lead v (ls.drop (j + 1)) ∧ ∃ q : Nat, wr2 = wo.drewN q) (fun mv _ => n - (intOf mv).toNat)
      case atStart => exact ⟨0, rfl, by omega, by omega, 0, rfl⟩
      case round =>
        obtain ⟨m, rfl, hm1, hm2, q, rfl⟩ := hrel
        by_cases hin : j + m + 1 < n
        · have d2 : decide (((j + m + 1 : Nat) : Int) < (n : Int)) = true := decide_eq_true (by omega)
          obtain ⟨ad', hA', hcell2⟩ := ReadsInt.at_ (HRR.out.below HB.out) ((j + m + 1 : Nat) : Int) (by omega) (by omega)
          cases hA'
          rw [Int.toNat_natCast] at hcell2
          obtain ⟨v2, hv2⟩ : ∃ v2, rd ls ((j + m + 1 : Nat) : Int) = v2 := ⟨_, rfl⟩
          rw [hv2] at hcell2
          have hget : (ls.drop (j + 1))[m]? = some v2 := by
            rw [List.getElem?_drop, show j + 1 + m = j + m + 1 from by omega, List.getElem?_eq_getElem (by rw [HLN.out]; exact hin), ← hv2]
            unfold rd
            rw [Int.toNat_natCast, List.getD_eq_getElem?_getD, List.getElem?_eq_getElem (by rw [HLN.out]; exact hin)]; rfl
          have HG := Lib.hid hget
          obtain ⟨jm, hjm⟩ : ∃ jm, j + m + 1 = jm := ⟨_, rfl⟩
          have HJM := Lib.hid hjm
          rw [hjm] at hcell2 d2
          have hjn : jm ≤ n := by omega
          have d2n : decide (jm < n) = true := decide_eq_true (by omega)
          have hj1 : (jm : Int) < (n : Int) := by omega
          have hj2 : jm < n := by omega
          have hj3 : (0 : Int) ≤ (jm : Int) := by omega
          obtain ⟨I1, I2, I3⟩ : Hid (wrap64 ((j : Int) + ((m + 1 : Nat) : Int)) = (jm : Int)) ∧ Hid (IntKind.i64.wrap ((j : Int) + ((m : Int) + 1)) = (jm : Int)) ∧ Hid (wrap64 ((j : Int) + ((m : Int) + 1)) = (jm : Int)) := ⟨Lib.hid (by rw [w64 _ (by omega) (by omega)]; omega), Lib.hid (by rw [IntWalk.i64_in _ (by omega)]; omega), Lib.hid (by rw [w64 _ (by omega) (by omega)]; omega)⟩
          clear hv2 hget hjm
          by_cases hvv : v2 = v
          · have d3 : (v2 == v) = true := by simp [hvv]
            have HN := Lib.hid (Lw.lead_next v _ m hm2 (by rw [HG.out, hvv]))
            have i1 := I1.out; have i2 := I2.out; have i3 := I3.out
            go_wp2_with fail
            go_quiet (fail)
            go_wp2_with fail
            clear i1 i2 i3
            go_roundw
            case rel => exact ⟨m + 1, by go_num, by have := HJM.out; omega, HN.out, q + nq, by first | rfl | rw [World.drewN_drewN]⟩
            case measure => have := HJM.out; simp [intOf]; omega
          · have d3 : (v2 == v) = false := beq_eq_false_iff_ne.2 hvv
            have HE := Lib.hid (Lw.lead_stop v _ m hm2 (by rw [HG.out]; simpa using hvv))
            have HRUN := Lib.hid (Lw.steps_run (ls := ls) (j := j) (m := m) (by rw [HLN.out]; exact hlt) (by rw [show ls.getD j 0 = v from by have e := HV.out; unfold rd at e; rw [Int.toNat_natCast] at e; exact e]; exact HE.out.symm))
            by_cases hv0 : v = 0
            · have hz : (v == 0) = true := by simp [hv0]
              have HV0 := Lib.hid hv0
              clear hv0
              have i1 := I1.out; have i2 := I2.out; have i3 := I3.out
              go_wp2_with fail
              go_quiet (fail)
              go_wp2_with fail
              clear i1 i2 i3
              go_loopw [3, 5] (fun rv nv wr3 => ∃ (r : Nat) (o2 : List Lw.St) (tv2 : Value), tv2 = rv ∧ o2.length + r ≤ jm ∧ nv = .int .i64 r ∧ Hid (StR wr3 w.heap.size tv2 o2) ∧ Hid (o2 ++ (Lw.zeros r ++ Lw.steps (ls.drop jm)) = Lw.steps ls) ∧ Hid (Below w.heap.size w wr3)) (fun _ nv _ => (intOf nv).toNat)
              case atStart => exact ⟨m + 1, o, tv, rfl, by have := HJM.out; omega, by go_num, Lib.hid (own_drewN HO.out _), Lib.hid (by rw [← HS.out, HRUN.out, show ls.getD j 0 = 0 from by have e := HV.out; rw [HV0.out] at e; unfold rd at e; rw [Int.toNat_natCast] at e; exact e, show j + (m + 1) = jm from HJM.out]; rfl), Lib.hid (pw_below_drewN HB.out _)⟩
              case round =>
                obtain ⟨r, o2, tv2, htv2, hr2, rfl, HO2, HS2, HB2⟩ := hrel
                subst htv2
                by_cases hr0 : 0 < r
                · have e1 : decide ((0 : Int) < (r : Int)) = true := decide_eq_true (by omega)
                  by_cases hr3 : (r : Int) ≤ 138
                  · skip
                    have HNX := Lib.hid (Lw.zeros_next hr0)
                    go_wp2_with fail
                    refine (noughts_at _ r _ rfl (by omega) (by omega)).mono ?_
                    rintro e w4 ⟨nv4, rfl, hO4, hB4⟩
                    have hsome := nought_some r (by omega)
                    have hle := nought_len r
                    obtain ⟨g4, c4, rfl, hg4⟩ := own_someQ3 hO4 hsome
                    have hz3 := HB2.out.size
                    have hz4 := hB4.size
                    have HO2b := Lib.hid (own_belowS HO2.out hB4)
                    have HRD := Lib.hid (World.ownsRow.cells hO4 rfl)
                    have HB4 := Lib.hid (HB2.out.trans (hB4.mono hz3))
                    clear hO4 hB4
                    go_wp2_with (at_builtin; refine wpList_append_own_at _ rfl _ _ 67 rfl w.heap.size 70 i0 (.agg #[.int .i64 0, .int .i64 0, .int .i64 0]) 3 24 Try.underlying67 HI.out HZ0.out HZ1.out HZ2.out rfl (by decide) tv2 o2.length (stC o2) rfl HO2b.out ⟨g4, 0, none⟩ _ c4 (stC (Lw.nought r)) rfl (stC_len _) HRD.out (stC_one _) (by unfold maxLen; omega) (by omega) (by omega) ?_)
                    intro v5 w5 hown hg hnl hat
                    have HO5 := Lib.hid (show StR w5 w.heap.size v5 (o2 ++ Lw.nought r) from by unfold StR; rw [stC_app, List.length_append]; exact hown)
                    have HB5 := Lib.hid (HB4.out.grown hg (by omega) (fun b hb => own_base HO2b.out b hb))
                    clear hown hg hnl hat
                    go_wp2_with fail
                    go_roundw
                    case rel => (first | exact ⟨r - r, o2 ++ Lw.nought r, v5, rfl, by rw [List.length_append]; omega, by go_num, HO5, Lib.hid (by rw [← HS2.out, HNX.out, show min r 138 = r from by omega]; simp only [List.append_assoc]), HB5⟩ | ((repeat apply Exists.intro); exact ⟨⟨r - r, o2 ++ Lw.nought r, v5, rfl, by rw [List.length_append]; omega, by go_num, HO5, Lib.hid (by rw [← HS2.out, HNX.out, show min r 138 = r from by omega]; simp only [List.append_assoc]), HB5⟩, rfl⟩))
                    case measure => simp [intOf]; omega
                  · skip
                    have HNX := Lib.hid (Lw.zeros_next hr0)
                    go_wp2_with fail
                    refine (noughts_at _ 138 _ rfl (by omega) (by omega)).mono ?_
                    rintro e w4 ⟨nv4, rfl, hO4, hB4⟩
                    have hsome := nought_some 138 (by omega)
                    have hle := nought_len 138
                    obtain ⟨g4, c4, rfl, hg4⟩ := own_someQ3 hO4 hsome
                    have hz3 := HB2.out.size
                    have hz4 := hB4.size
                    have HO2b := Lib.hid (own_belowS HO2.out hB4)
                    have HRD := Lib.hid (World.ownsRow.cells hO4 rfl)
                    have HB4 := Lib.hid (HB2.out.trans (hB4.mono hz3))
                    clear hO4 hB4
                    go_wp2_with (at_builtin; refine wpList_append_own_at _ rfl _ _ 67 rfl w.heap.size 70 i0 (.agg #[.int .i64 0, .int .i64 0, .int .i64 0]) 3 24 Try.underlying67 HI.out HZ0.out HZ1.out HZ2.out rfl (by decide) tv2 o2.length (stC o2) rfl HO2b.out ⟨g4, 0, none⟩ _ c4 (stC (Lw.nought 138)) rfl (stC_len _) HRD.out (stC_one _) (by unfold maxLen; omega) (by omega) (by omega) ?_)
                    intro v5 w5 hown hg hnl hat
                    have HO5 := Lib.hid (show StR w5 w.heap.size v5 (o2 ++ Lw.nought 138) from by unfold StR; rw [stC_app, List.length_append]; exact hown)
                    have HB5 := Lib.hid (HB4.out.grown hg (by omega) (fun b hb => own_base HO2b.out b hb))
                    clear hown hg hnl hat
                    go_wp2_with fail
                    go_roundw
                    case rel => (first | exact ⟨r - 138, o2 ++ Lw.nought 138, v5, rfl, by rw [List.length_append]; omega, by go_num, HO5, Lib.hid (by rw [← HS2.out, HNX.out, show min r 138 = 138 from by omega]; simp only [List.append_assoc]), HB5⟩ | ((repeat apply Exists.intro); exact ⟨⟨r - 138, o2 ++ Lw.nought 138, v5, rfl, by rw [List.length_append]; omega, by go_num, HO5, Lib.hid (by rw [← HS2.out, HNX.out, show min r 138 = 138 from by omega]; simp only [List.append_assoc]), HB5⟩, rfl⟩))
                    case measure => simp [intOf]; omega
                · have e1 : decide ((0 : Int) < (r : Int)) = false := decide_eq_false (by omega)
                  obtain rfl : r = 0 := by omega
                  go_wp2_with fail
                  go_roundw
                  case rel => first | exact ⟨jm, o2, tv2, rfl, by omega, by omega, rfl, HO2, Lib.hid (by rw [← HS2.out, Lw.zeros_zero]; rfl), HB2⟩ | ((repeat apply Exists.intro); exact ⟨⟨jm, o2, tv2, rfl, by omega, by omega, rfl, HO2, Lib.hid (by rw [← HS2.out, Lw.zeros_zero]; rfl), HB2⟩, rfl⟩)
                  case measure => have := HJM.out; simp [intOf]; omega
            · have hz : (v == 0) = false := beq_eq_false_iff_ne.2 hv0
              have hv1 : 1 ≤ v := by omega
              have HV0 := Lib.hid hv0
              clear hv0
              have hz0 := HB.out.size
              have i1 := I1.out; have i2 := I2.out; have i3 := I3.out
              go_wp2_with fail
              go_quiet (fail)
              have HOd := Lib.hid (own_drewN (own_drewN HO.out q) nq)
              have HBd := Lib.hid (pw_below_drewN (pw_below_drewN HB.out q) nq)
              have hcd : ((wo.drewN q).drewN nq).cell? (ad.add j) = some (.int .i64 v) := hcell
              have hzd : w.heap.size ≤ ((wo.drewN q).drewN nq).heap.size := by rw [heap_drewN, heap_drewN]; exact hz0
              generalize hwd : (wo.drewN q).drewN nq = wd at *
              clear hwd
              go_wp2_with (at_builtin; clear i1 i2 i3; refine print_append_cells (W := wd) w.heap.size rfl _ _ 67 70 (.agg #[.int .i64 0, .int .i64 0, .int .i64 0]) 3 24 rfl Try.underlying67 info_step rfl (by decide) (by decide) tv o.length (stC o) [.int .i64 v, .int .i64 0, .int .i64 0] rfl rfl rfl (stC_one [(v, 0, 0)]) HOd.out HBd.out hzd (by omega) ?_)
              intro v4 w4 hown hB4 hg hat
              have HO4 := Lib.hid (show StR w4 w.heap.size v4 (o ++ [(v, 0, 0)]) from by unfold StR; rw [stC_app, List.length_append]; exact hown)
              have HB4 := Lib.hid hB4
              clear hown hB4 hg hat
              go_wp2_with fail
              go_loopw [3, 5, 7] (fun rv nv _ wr3 => ∃ (r : Nat) (o2 : List Lw.St) (tv2 : Value), tv2 = rv ∧ o2.length + r ≤ jm ∧ nv = .int .i64 r ∧ Hid (StR wr3 w.heap.size tv2 o2) ∧ Hid (o2 ++ (Lw.reps v r ++ Lw.steps (ls.drop jm)) = Lw.steps ls) ∧ Hid (Below w.heap.size w wr3)) (fun _ nv _ _ => (intOf nv).toNat)
              case atStart => exact ⟨m, o ++ [(v, 0, 0)], v4, rfl, by have := HJM.out; simp; omega, by go_num, HO4, Lib.hid (by rw [← HS.out, HRUN.out, show ls.getD j 0 = v from by have e := HV.out; unfold rd at e; rw [Int.toNat_natCast] at e; exact e, show j + (m + 1) = jm from HJM.out, show Lw.runS v (m + 1) = (v, 0, 0) :: Lw.reps v m from by unfold Lw.runS; rw [if_neg HV0.out]; rfl]; simp only [List.append_assoc, List.cons_append, List.nil_append]), HB4⟩
              case round =>
                obtain ⟨r, o2, tv2, htv2, hr2, rfl, HO2, HS2, HB2⟩ := hrel
                subst htv2
                have hz2 := HB2.out.size
                by_cases hr0 : 0 < r
                · have e1 : decide ((0 : Int) < (r : Int)) = true := decide_eq_true (by omega)
                  by_cases hr3 : r < 3
                  · have e2 : decide ((r : Int) < 3) = true := decide_eq_true (by omega)
                    have HNX := Lib.hid (Lw.reps_few (v := v) hr0 hr3)
                    go_wp2_with (at_builtin; refine print_append_cells (W := wr) w.heap.size rfl _ _ 67 70 (.agg #[.int .i64 0, .int .i64 0, .int .i64 0]) 3 24 rfl Try.underlying67 info_step rfl (by decide) (by decide) tv2 o2.length (stC o2) [.int .i64 v, .int .i64 0, .int .i64 0] rfl rfl rfl (stC_one [(v, 0, 0)]) HO2.out HB2.out hz2 (by omega) ?_)
                    intro v5 w5 hown hB5 hg hat
                    have HO5 := Lib.hid (show StR w5 w.heap.size v5 (o2 ++ [(v, 0, 0)]) from by unfold StR; rw [stC_app, List.length_append]; exact hown)
                    have HB5 := Lib.hid hB5
                    clear hown hB5 hg hat
                    go_wp2_with fail
                    go_roundw
                    case rel => (first | exact ⟨r - 1, o2 ++ [(v, 0, 0)], v5, rfl, by simp; omega, by go_num, HO5, Lib.hid (by rw [← HS2.out, HNX.out]; simp only [List.append_assoc, List.cons_append, List.nil_append]), HB5⟩ | ((repeat apply Exists.intro); exact ⟨⟨r - 1, o2 ++ [(v, 0, 0)], v5, rfl, by simp; omega, by go_num, HO5, Lib.hid (by rw [← HS2.out, HNX.out]; simp only [List.append_assoc, List.cons_append, List.nil_append]), HB5⟩, rfl⟩))
                    case measure => simp [intOf]; omega
                  · have e2 : decide ((r : Int) < 3) = false := decide_eq_false (by omega)
                    have HNX := Lib.hid (Lw.reps_more (v := v) (n := r) (by omega))
                    by_cases hr6 : (r : Int) ≤ 6
                    · skip
                      go_wp2_with (at_builtin; refine print_append_cells (W := wr) w.heap.size rfl _ _ 67 70 (.agg #[.int .i64 0, .int .i64 0, .int .i64 0]) 3 24 rfl Try.underlying67 info_step rfl (by decide) (by decide) tv2 o2.length (stC o2) [.int .i64 16, .int .i64 ((r : Int) - 3), .int .i64 2] rfl rfl rfl (stC_one [(16, (r : Int) - 3, 2)]) HO2.out HB2.out hz2 (by omega) ?_)
                      intro v5 w5 hown hB5 hg hat
                      have HO5 := Lib.hid (show StR w5 w.heap.size v5 (o2 ++ [(16, ((r : Int) - 3), 2)]) from by unfold StR; rw [stC_app, List.length_append]; exact hown)
                      have HB5 := Lib.hid hB5
                      clear hown hB5 hg hat
                      go_wp2_with fail
                      go_roundw
                      case rel => (first | exact ⟨r - r, o2 ++ [(16, ((r : Int) - 3), 2)], v5, rfl, by simp; omega, by go_num, HO5, Lib.hid (by rw [← HS2.out, HNX.out, show min r 6 = r from by omega]; simp only [List.append_assoc, List.cons_append, List.nil_append]; first | done | rfl), HB5⟩ | ((repeat apply Exists.intro); exact ⟨⟨r - r, o2 ++ [(16, ((r : Int) - 3), 2)], v5, rfl, by simp; omega, by go_num, HO5, Lib.hid (by rw [← HS2.out, HNX.out, show min r 6 = r from by omega]; simp only [List.append_assoc, List.cons_append, List.nil_append]; first | done | rfl), HB5⟩, rfl⟩))
                      case measure => simp [intOf]; omega
                    · have h6 : (6 : Int) < (r : Int) := by omega
                      go_wp2_with (at_builtin; refine print_append_cells (W := wr) w.heap.size rfl _ _ 67 70 (.agg #[.int .i64 0, .int .i64 0, .int .i64 0]) 3 24 rfl Try.underlying67 info_step rfl (by decide) (by decide) tv2 o2.length (stC o2) [.int .i64 16, .int .i64 3, .int .i64 2] (by rfl) (by rfl) (by rfl) (stC_one [(16, 3, 2)]) HO2.out HB2.out hz2 (by omega) ?_)
                      intro v5 w5 hown hB5 hg hat
                      have HO5 := Lib.hid (show StR w5 w.heap.size v5 (o2 ++ [(16, 3, 2)]) from by unfold StR; rw [stC_app, List.length_append]; exact hown)
                      have HB5 := Lib.hid hB5
                      clear hown hB5 hg hat
                      go_wp2_with fail
                      go_roundw
                      case rel => (first | exact ⟨r - 6, o2 ++ [(16, 3, 2)], v5, rfl, by simp; omega, by go_num, HO5, Lib.hid (by rw [← HS2.out, HNX.out, show min r 6 = 6 from by omega]; simp only [List.append_assoc, List.cons_append, List.nil_append]; first | done | rfl), HB5⟩ | ((repeat apply Exists.intro); exact ⟨⟨r - 6, o2 ++ [(16, 3, 2)], v5, rfl, by simp; omega, by go_num, HO5, Lib.hid (by rw [← HS2.out, HNX.out, show min r 6 = 6 from by omega]; simp only [List.append_assoc, List.cons_append, List.nil_append]; first | done | rfl), HB5⟩, rfl⟩))
                      case measure => simp [intOf]; omega
                · have e1 : decide ((0 : Int) < (r : Int)) = false := decide_eq_false (by omega)
                  obtain rfl : r = 0 := by omega
                  go_wp2_with fail
                  go_roundw
                  case rel => (first | exact ⟨jm, o2, tv2, rfl, by omega, by omega, rfl, HO2, Lib.hid (by rw [← HS2.out, Lw.reps_zero]; rfl), HB2⟩ | ((repeat apply Exists.intro); exact ⟨⟨jm, o2, tv2, rfl, by omega, by omega, rfl, HO2, Lib.hid (by rw [← HS2.out, Lw.reps_zero]; rfl), HB2⟩, rfl⟩))
                  case measure => have := HJM.out; simp [intOf]; omega
        · have d2 : decide (((j + m + 1 : Nat) : Int) < (n : Int)) = false := decide_eq_false (by omega)
          obtain ⟨jm, hjm⟩ : ∃ jm, j + m + 1 = jm := ⟨_, rfl⟩
          have HJM := Lib.hid hjm
          rw [hjm] at d2
          have hjn : jm ≤ n := by omega
          have d2n : decide (jm < n) = false := decide_eq_false (by omega)
          have HE := Lib.hid (Lw.lead_stop v _ m hm2 (by rw [List.getElem?_eq_none (by rw [List.length_drop, HLN.out]; omega)]; simp))
          obtain ⟨I1, I2, I3⟩ : Hid (wrap64 ((j : Int) + ((m + 1 : Nat) : Int)) = (jm : Int)) ∧ Hid (IntKind.i64.wrap ((j : Int) + ((m : Int) + 1)) = (jm : Int)) ∧ Hid (wrap64 ((j : Int) + ((m : Int) + 1)) = (jm : Int)) := ⟨Lib.hid (by rw [w64 _ (by omega) (by omega)]; omega), Lib.hid (by rw [IntWalk.i64_in _ (by omega)]; omega), Lib.hid (by rw [w64 _ (by omega) (by omega)]; omega)⟩
          clear hjm
          have HRUN := Lib.hid (Lw.steps_run (ls := ls) (j := j) (m := m) (by rw [HLN.out]; exact hlt) (by rw [show ls.getD j 0 = v from by have e := HV.out; unfold rd at e; rw [Int.toNat_natCast] at e; exact e]; exact HE.out.symm))
          by_cases hv0 : v = 0
          · have hz : (v == 0) = true := by simp [hv0]
            have HV0 := Lib.hid hv0
            clear hv0
            have i1 := I1.out; have i2 := I2.out; have i3 := I3.out
            go_wp2_with fail
            go_quiet (fail)
            go_wp2_with fail
            clear i1 i2 i3
            go_loopw [3, 5] (fun rv nv wr3 => ∃ (r : Nat) (o2 : List Lw.St) (tv2 : Value), tv2 = rv ∧ o2.length + r ≤ jm ∧ nv = .int .i64 r ∧ Hid (StR wr3 w.heap.size tv2 o2) ∧ Hid (o2 ++ (Lw.zeros r ++ Lw.steps (ls.drop jm)) = Lw.steps ls) ∧ Hid (Below w.heap.size w wr3)) (fun _ nv _ => (intOf nv).toNat)
            case atStart => exact ⟨m + 1, o, tv, rfl, by have := HJM.out; omega, by go_num, Lib.hid (own_drewN HO.out _), Lib.hid (by rw [← HS.out, HRUN.out, show ls.getD j 0 = 0 from by have e := HV.out; rw [HV0.out] at e; unfold rd at e; rw [Int.toNat_natCast] at e; exact e, show j + (m + 1) = jm from HJM.out]; rfl), Lib.hid (pw_below_drewN HB.out _)⟩
            case round =>
              obtain ⟨r, o2, tv2, htv2, hr2, rfl, HO2, HS2, HB2⟩ := hrel
              subst htv2
              by_cases hr0 : 0 < r
              · have e1 : decide ((0 : Int) < (r : Int)) = true := decide_eq_true (by omega)
                by_cases hr3 : (r : Int) ≤ 138
                · skip
                  have HNX := Lib.hid (Lw.zeros_next hr0)
                  go_wp2_with fail
                  refine (noughts_at _ r _ rfl (by omega) (by omega)).mono ?_
                  rintro e w4 ⟨nv4, rfl, hO4, hB4⟩
                  have hsome := nought_some r (by omega)
                  have hle := nought_len r
                  obtain ⟨g4, c4, rfl, hg4⟩ := own_someQ3 hO4 hsome
                  have hz3 := HB2.out.size
                  have hz4 := hB4.size
                  have HO2b := Lib.hid (own_belowS HO2.out hB4)
                  have HRD := Lib.hid (World.ownsRow.cells hO4 rfl)
                  have HB4 := Lib.hid (HB2.out.trans (hB4.mono hz3))
                  clear hO4 hB4
                  go_wp2_with (at_builtin; refine wpList_append_own_at _ rfl _ _ 67 rfl w.heap.size 70 i0 (.agg #[.int .i64 0, .int .i64 0, .int .i64 0]) 3 24 Try.underlying67 HI.out HZ0.out HZ1.out HZ2.out rfl (by decide) tv2 o2.length (stC o2) rfl HO2b.out ⟨g4, 0, none⟩ _ c4 (stC (Lw.nought r)) rfl (stC_len _) HRD.out (stC_one _) (by unfold maxLen; omega) (by omega) (by omega) ?_)
                  intro v5 w5 hown hg hnl hat
                  have HO5 := Lib.hid (show StR w5 w.heap.size v5 (o2 ++ Lw.nought r) from by unfold StR; rw [stC_app, List.length_append]; exact hown)
                  have HB5 := Lib.hid (HB4.out.grown hg (by omega) (fun b hb => own_base HO2b.out b hb))
                  clear hown hg hnl hat
                  go_wp2_with fail
                  go_roundw
                  case rel => (first | exact ⟨r - r, o2 ++ Lw.nought r, v5, rfl, by rw [List.length_append]; omega, by go_num, HO5, Lib.hid (by rw [← HS2.out, HNX.out, show min r 138 = r from by omega]; simp only [List.append_assoc]), HB5⟩ | ((repeat apply Exists.intro); exact ⟨⟨r - r, o2 ++ Lw.nought r, v5, rfl, by rw [List.length_append]; omega, by go_num, HO5, Lib.hid (by rw [← HS2.out, HNX.out, show min r 138 = r from by omega]; simp only [List.append_assoc]), HB5⟩, rfl⟩))
                  case measure => simp [intOf]; omega
                · skip
                  have HNX := Lib.hid (Lw.zeros_next hr0)
                  go_wp2_with fail
                  refine (noughts_at _ 138 _ rfl (by omega) (by omega)).mono ?_
                  rintro e w4 ⟨nv4, rfl, hO4, hB4⟩
                  have hsome := nought_some 138 (by omega)
                  have hle := nought_len 138
                  obtain ⟨g4, c4, rfl, hg4⟩ := own_someQ3 hO4 hsome
                  have hz3 := HB2.out.size
                  have hz4 := hB4.size
                  have HO2b := Lib.hid (own_belowS HO2.out hB4)
                  have HRD := Lib.hid (World.ownsRow.cells hO4 rfl)
                  have HB4 := Lib.hid (HB2.out.trans (hB4.mono hz3))
                  clear hO4 hB4
                  go_wp2_with (at_builtin; refine wpList_append_own_at _ rfl _ _ 67 rfl w.heap.size 70 i0 (.agg #[.int .i64 0, .int .i64 0, .int .i64 0]) 3 24 Try.underlying67 HI.out HZ0.out HZ1.out HZ2.out rfl (by decide) tv2 o2.length (stC o2) rfl HO2b.out ⟨g4, 0, none⟩ _ c4 (stC (Lw.nought 138)) rfl (stC_len _) HRD.out (stC_one _) (by unfold maxLen; omega) (by omega) (by omega) ?_)
                  intro v5 w5 hown hg hnl hat
                  have HO5 := Lib.hid (show StR w5 w.heap.size v5 (o2 ++ Lw.nought 138) from by unfold StR; rw [stC_app, List.length_append]; exact hown)
                  have HB5 := Lib.hid (HB4.out.grown hg (by omega) (fun b hb => own_base HO2b.out b hb))
                  clear hown hg hnl hat
                  go_wp2_with fail
                  go_roundw
                  case rel => (first | exact ⟨r - 138, o2 ++ Lw.nought 138, v5, rfl, by rw [List.length_append]; omega, by go_num, HO5, Lib.hid (by rw [← HS2.out, HNX.out, show min r 138 = 138 from by omega]; simp only [List.append_assoc]), HB5⟩ | ((repeat apply Exists.intro); exact ⟨⟨r - 138, o2 ++ Lw.nought 138, v5, rfl, by rw [List.length_append]; omega, by go_num, HO5, Lib.hid (by rw [← HS2.out, HNX.out, show min r 138 = 138 from by omega]; simp only [List.append_assoc]), HB5⟩, rfl⟩))
                  case measure => simp [intOf]; omega
              · have e1 : decide ((0 : Int) < (r : Int)) = false := decide_eq_false (by omega)
                obtain rfl : r = 0 := by omega
                go_wp2_with fail
                go_roundw
                case rel => first | exact ⟨jm, o2, tv2, rfl, by omega, by omega, rfl, HO2, Lib.hid (by rw [← HS2.out, Lw.zeros_zero]; rfl), HB2⟩ | ((repeat apply Exists.intro); exact ⟨⟨jm, o2, tv2, rfl, by omega, by omega, rfl, HO2, Lib.hid (by rw [← HS2.out, Lw.zeros_zero]; rfl), HB2⟩, rfl⟩)
                case measure => have := HJM.out; simp [intOf]; omega
          · have hz : (v == 0) = false := beq_eq_false_iff_ne.2 hv0
            have hv1 : 1 ≤ v := by omega
            have HV0 := Lib.hid hv0
            clear hv0
            have hz0 := HB.out.size
            have i1 := I1.out; have i2 := I2.out; have i3 := I3.out
            go_wp2_with fail
            go_quiet (fail)
            have HOd := Lib.hid (own_drewN (own_drewN HO.out q) nq)
            have HBd := Lib.hid (pw_below_drewN (pw_below_drewN HB.out q) nq)
            have hcd : ((wo.drewN q).drewN nq).cell? (ad.add j) = some (.int .i64 v) := hcell
            have hzd : w.heap.size ≤ ((wo.drewN q).drewN nq).heap.size := by rw [heap_drewN, heap_drewN]; exact hz0
            generalize hwd : (wo.drewN q).drewN nq = wd at *
            clear hwd
            go_wp2_with (at_builtin; clear i1 i2 i3; refine print_append_cells (W := wd) w.heap.size rfl _ _ 67 70 (.agg #[.int .i64 0, .int .i64 0, .int .i64 0]) 3 24 rfl Try.underlying67 info_step rfl (by decide) (by decide) tv o.length (stC o) [.int .i64 v, .int .i64 0, .int .i64 0] rfl rfl rfl (stC_one [(v, 0, 0)]) HOd.out HBd.out hzd (by omega) ?_)
            intro v4 w4 hown hB4 hg hat
            have HO4 := Lib.hid (show StR w4 w.heap.size v4 (o ++ [(v, 0, 0)]) from by unfold StR; rw [stC_app, List.length_append]; exact hown)
            have HB4 := Lib.hid hB4
            clear hown hB4 hg hat
            go_wp2_with fail
            go_loopw [3, 5, 7] (fun rv nv _ wr3 => ∃ (r : Nat) (o2 : List Lw.St) (tv2 : Value), tv2 = rv ∧ o2.length + r ≤ jm ∧ nv = .int .i64 r ∧ Hid (StR wr3 w.heap.size tv2 o2) ∧ Hid (o2 ++ (Lw.reps v r ++ Lw.steps (ls.drop jm)) = Lw.steps ls) ∧ Hid (Below w.heap.size w wr3)) (fun _ nv _ _ => (intOf nv).toNat)
            case atStart => exact ⟨m, o ++ [(v, 0, 0)], v4, rfl, by have := HJM.out; simp; omega, by go_num, HO4, Lib.hid (by rw [← HS.out, HRUN.out, show ls.getD j 0 = v from by have e := HV.out; unfold rd at e; rw [Int.toNat_natCast] at e; exact e, show j + (m + 1) = jm from HJM.out, show Lw.runS v (m + 1) = (v, 0, 0) :: Lw.reps v m from by unfold Lw.runS; rw [if_neg HV0.out]; rfl]; simp only [List.append_assoc, List.cons_append, List.nil_append]), HB4⟩
            case round =>
              obtain ⟨r, o2, tv2, htv2, hr2, rfl, HO2, HS2, HB2⟩ := hrel
              subst htv2
              have hz2 := HB2.out.size
              by_cases hr0 : 0 < r
              · have e1 : decide ((0 : Int) < (r : Int)) = true := decide_eq_true (by omega)
                by_cases hr3 : r < 3
                · have e2 : decide ((r : Int) < 3) = true := decide_eq_true (by omega)
                  have HNX := Lib.hid (Lw.reps_few (v := v) hr0 hr3)
                  go_wp2_with (at_builtin; refine print_append_cells (W := wr) w.heap.size rfl _ _ 67 70 (.agg #[.int .i64 0, .int .i64 0, .int .i64 0]) 3 24 rfl Try.underlying67 info_step rfl (by decide) (by decide) tv2 o2.length (stC o2) [.int .i64 v, .int .i64 0, .int .i64 0] rfl rfl rfl (stC_one [(v, 0, 0)]) HO2.out HB2.out hz2 (by omega) ?_)
                  intro v5 w5 hown hB5 hg hat
                  have HO5 := Lib.hid (show StR w5 w.heap.size v5 (o2 ++ [(v, 0, 0)]) from by unfold StR; rw [stC_app, List.length_append]; exact hown)
                  have HB5 := Lib.hid hB5
                  clear hown hB5 hg hat
                  go_wp2_with fail
                  go_roundw
                  case rel => (first | exact ⟨r - 1, o2 ++ [(v, 0, 0)], v5, rfl, by simp; omega, by go_num, HO5, Lib.hid (by rw [← HS2.out, HNX.out]; simp only [List.append_assoc, List.cons_append, List.nil_append]), HB5⟩ | ((repeat apply Exists.intro); exact ⟨⟨r - 1, o2 ++ [(v, 0, 0)], v5, rfl, by simp; omega, by go_num, HO5, Lib.hid (by rw [← HS2.out, HNX.out]; simp only [List.append_assoc, List.cons_append, List.nil_append]), HB5⟩, rfl⟩))
                  case measure => simp [intOf]; omega
                · have e2 : decide ((r : Int) < 3) = false := decide_eq_false (by omega)
                  have HNX := Lib.hid (Lw.reps_more (v := v) (n := r) (by omega))
                  by_cases hr6 : (r : Int) ≤ 6
                  · skip
                    go_wp2_with (at_builtin; refine print_append_cells (W := wr) w.heap.size rfl _ _ 67 70 (.agg #[.int .i64 0, .int .i64 0, .int .i64 0]) 3 24 rfl Try.underlying67 info_step rfl (by decide) (by decide) tv2 o2.length (stC o2) [.int .i64 16, .int .i64 ((r : Int) - 3), .int .i64 2] rfl rfl rfl (stC_one [(16, (r : Int) - 3, 2)]) HO2.out HB2.out hz2 (by omega) ?_)
                    intro v5 w5 hown hB5 hg hat
                    have HO5 := Lib.hid (show StR w5 w.heap.size v5 (o2 ++ [(16, ((r : Int) - 3), 2)]) from by unfold StR; rw [stC_app, List.length_append]; exact hown)
                    have HB5 := Lib.hid hB5
                    clear hown hB5 hg hat
                    go_wp2_with fail
                    go_roundw
                    case rel => (first | exact ⟨r - r, o2 ++ [(16, ((r : Int) - 3), 2)], v5, rfl, by simp; omega, by go_num, HO5, Lib.hid (by rw [← HS2.out, HNX.out, show min r 6 = r from by omega]; simp only [List.append_assoc, List.cons_append, List.nil_append]; first | done | rfl), HB5⟩ | ((repeat apply Exists.intro); exact ⟨⟨r - r, o2 ++ [(16, ((r : Int) - 3), 2)], v5, rfl, by simp; omega, by go_num, HO5, Lib.hid (by rw [← HS2.out, HNX.out, show min r 6 = r from by omega]; simp only [List.append_assoc, List.cons_append, List.nil_append]; first | done | rfl), HB5⟩, rfl⟩))
                    case measure => simp [intOf]; omega
                  · have h6 : (6 : Int) < (r : Int) := by omega
                    go_wp2_with (at_builtin; refine print_append_cells (W := wr) w.heap.size rfl _ _ 67 70 (.agg #[.int .i64 0, .int .i64 0, .int .i64 0]) 3 24 rfl Try.underlying67 info_step rfl (by decide) (by decide) tv2 o2.length (stC o2) [.int .i64 16, .int .i64 3, .int .i64 2] (by rfl) (by rfl) (by rfl) (stC_one [(16, 3, 2)]) HO2.out HB2.out hz2 (by omega) ?_)
                    intro v5 w5 hown hB5 hg hat
                    have HO5 := Lib.hid (show StR w5 w.heap.size v5 (o2 ++ [(16, 3, 2)]) from by unfold StR; rw [stC_app, List.length_append]; exact hown)
                    have HB5 := Lib.hid hB5
                    clear hown hB5 hg hat
                    go_wp2_with fail
                    go_roundw
                    case rel => (first | exact ⟨r - 6, o2 ++ [(16, 3, 2)], v5, rfl, by simp; omega, by go_num, HO5, Lib.hid (by rw [← HS2.out, HNX.out, show min r 6 = 6 from by omega]; simp only [List.append_assoc, List.cons_append, List.nil_append]; first | done | rfl), HB5⟩ | ((repeat apply Exists.intro); exact ⟨⟨r - 6, o2 ++ [(16, 3, 2)], v5, rfl, by simp; omega, by go_num, HO5, Lib.hid (by rw [← HS2.out, HNX.out, show min r 6 = 6 from by omega]; simp only [List.append_assoc, List.cons_append, List.nil_append]; first | done | rfl), HB5⟩, rfl⟩))
                    case measure => simp [intOf]; omega
              · have e1 : decide ((0 : Int) < (r : Int)) = false := decide_eq_false (by omega)
                obtain rfl : r = 0 := by omega
                go_wp2_with fail
                go_roundw
                case rel => (first | exact ⟨jm, o2, tv2, rfl, by omega, by omega, rfl, HO2, Lib.hid (by rw [← HS2.out, Lw.reps_zero]; rfl), HB2⟩ | ((repeat apply Exists.intro); exact ⟨⟨jm, o2, tv2, rfl, by omega, by omega, rfl, HO2, Lib.hid (by rw [← HS2.out, Lw.reps_zero]; rfl), HB2⟩, rfl⟩))
                case measure => have := HJM.out; simp [intOf]; omega
    · have d1 : decide ((j : Int) < (n : Int)) = false := decide_eq_false (by omega)
      obtain rfl : j = n := by omega
      go_wp2_with fail
      go_ret
      refine ⟨_, rfl, ?_, HB.out⟩
      have e := HS.out
      rw [List.drop_of_length_le (by omega), Lw.steps_nil, List.append_nil] at e
      rw [← e]; exact HO.out
end Go.Proofs.Ytbljoihnjhllhaa

/- What size.check and size.Total do. -/
namespace Go.Proofs.Ytbljoihnjhllhaa
open Go.RowKit
open Go.Proofs.YtbljoihnjhllhaaW.PrintWords

theorem rd_lnS (ls : List Int) (k : Nat) : rd ls (k : Int) = ln ls k := by unfold rd ln; rw [Int.toNat_natCast, List.getD_eq_getElem?_getD]
def badCnt (n : Int) : Bool := decide (n < 0) || decide (4294967296 < n)
/-- May there be such lengths? -/
def okS (cs : List Int) (most : Int) : Bool := decide (1 ≤ most ∧ most ≤ 15 ∧ cs.length ≤ 4096) && !cs.any badCnt && decide ((many cs : Int) ≤ 2 ^ most.toNat)
theorem cnt_up (cs : List Int) (k : Nat) (hk : k < cs.length) : (cs.take (k + 1)).any badCnt = ((cs.take k).any badCnt || badCnt (ln cs k)) := by
  rw [List.take_add_one, List.getElem?_eq_getElem hk, List.any_append, ln_get hk]; simp

set_option maxHeartbeats 1000000 in
theorem check_size (A : Option Addr) (n c : Nat) (cs : List Int) (most : Int) (w : World) (HR : ReadsInt w .i64 A n cs) :
    Calls Try.prog 48 #[.slice A n c, .int .i64 most] w fun e w' => e = .returned (.bool (okS cs most)) ∧ w = w' := by
  have HRR := Lib.hid HR; have HL := Lib.hid HR.1
  have hmx := HR.2.1
  clear HR
  by_cases h0 : 1 ≤ most ∧ most ≤ 15 ∧ n ≤ 4096
  · obtain ⟨h1, h2, h3⟩ := h0
    go_enter Try.func48, Try.ntmps48
    go_wp2_with fail
    go_loop [5, 7, 21] (fun s x i => ∃ k : Nat, k ≤ n ∧ i = .int .i64 k ∧ s = .int .i64 (mnUp cs k : Nat) ∧ Hid ((cs.take k).any badCnt = false)) (fun _ _ i => n - (intOf i).toNat)
    case atStart => exact ⟨0, Nat.zero_le _, rfl, rfl, rfl⟩
    case round =>
      obtain ⟨k, hk, rfl, rfl, HB⟩ := hrel
      have hmk := mnUp_le cs k
      by_cases hlt : k < n
      · obtain ⟨ad, hA, hcell⟩ := ReadsInt.at_ HRR.out (k : Int) (by omega) (by omega)
        rw [Int.toNat_natCast, rd_lnS] at hcell
        subst hA
        have hkl : k < cs.length := by have := HL.out; omega
        by_cases hbad : badCnt (ln cs k) = true
        · have HF := Lib.hid (show okS cs most = false from by
            unfold okS
            have : cs.any badCnt = true := List.any_eq_true.2 ⟨ln cs k, ln_mem hkl, hbad⟩
            rw [this]; simp)
          have hb2 : ln cs k < 0 ∨ 4294967296 < ln cs k := by unfold badCnt at hbad; simpa using hbad
          clear hbad
          by_cases q : ln cs k < 0
          · go_wp2
            go_ret
            exact ⟨by rw [HF.out]; rfl, rfl⟩
          · have q2 : 4294967296 < ln cs k := by omega
            go_wp2
            go_ret
            exact ⟨by rw [HF.out]; rfl, rfl⟩
        · have hb2 : ¬ ln cs k < 0 ∧ ¬ 4294967296 < ln cs k := by unfold badCnt at hbad; simp at hbad; omega
          obtain ⟨q1, q2⟩ := hb2
          have HB1 := Lib.hid (show (cs.take (k + 1)).any badCnt = false from by rw [cnt_up cs k hkl, HB.out]; simpa using hbad)
          have HN := Lib.hid (mnUp_succ cs k)
          clear hbad
          by_cases hp : 0 < ln cs k
          · have HN2 := Lib.hid (show mnUp cs (k + 1) = mnUp cs k + 1 from by rw [HN.out, if_pos hp])
            go_wp2
            go_round
            case rel => exact ⟨k + 1, by omega, by go_num, by rw [HN2.out]; go_num, HB1.out⟩
            case measure => simp [intOf]; omega
          · have HN2 := Lib.hid (show mnUp cs (k + 1) = mnUp cs k from by rw [HN.out, if_neg hp]; rfl)
            go_wp2
            go_round
            case rel => exact ⟨k + 1, by omega, by go_num, by rw [HN2.out], HB1.out⟩
            case measure => simp [intOf]; omega
      · have hkn : k = cs.length := by have := HL.out; omega
        have HF := Lib.hid (show okS cs most = decide ((mnUp cs k : Int) ≤ 2 ^ most.toNat) from by
          unfold okS
          have hb := HB.out
          rw [hkn, List.take_of_length_le (Nat.le_refl _)] at hb
          rw [hb, decide_eq_true (show 1 ≤ most ∧ most ≤ 15 ∧ cs.length ≤ 4096 from ⟨h1, h2, by omega⟩), hkn]; rfl)
        have hpw : (2 : Int) ^ most.toNat ≤ 32768 := by
          have : (2 : Int) ^ most.toNat ≤ 2 ^ 15 := by exact_mod_cast Nat.pow_le_pow_right (by decide) (by omega)
          omega
        have hpw0 : (0 : Int) < 2 ^ most.toNat := Int.pow_pos (by decide)
        have hwr : wrap64 (2 ^ most.toNat) = 2 ^ most.toNat := w64 _ (by omega) (by omega)
        clear hkn
        go_wp2
        go_ret
        exact ⟨by rw [HF.out]; rfl, rfl⟩
  · have HF := Lib.hid (show okS cs most = false from by
      unfold okS
      rw [decide_eq_false (by rw [HL.out]; exact h0)]; rfl)
    by_cases q1 : most < 1
    · go_enter Try.func48, Try.ntmps48
      go_wp2
      go_ret
      exact ⟨by rw [HF.out]; rfl, rfl⟩
    · by_cases q2 : 15 < most
      · go_enter Try.func48, Try.ntmps48
        go_wp2
        go_ret
        exact ⟨by rw [HF.out]; rfl, rfl⟩
      · have q3 : 4096 < n := by omega
        clear h0
        go_enter Try.func48, Try.ntmps48
        go_wp2
        go_ret
        exact ⟨by rw [HF.out]; rfl, rfl⟩

/-- What lengths cost. -/
def totS (cs ls : List Int) : Nat → Int
  | 0 => 0
  | k + 1 => wrap64 (totS cs ls k + wrap64 (ln cs k * ln ls k))
end Go.Proofs.Ytbljoihnjhllhaa
