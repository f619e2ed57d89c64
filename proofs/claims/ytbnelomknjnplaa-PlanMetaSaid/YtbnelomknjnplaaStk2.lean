/- What the library's insertion sort does with the sets. (Turned from SortI's text.) -/
import Derived.Test.YtbnelomknjnplaaStk1
import Derived.BigQuiet
namespace Go.Proofs.Ytbnelomknjnplaa
open Go.RowKit
open Go.Proofs.YtbnelomknjnplaaW.PrintWords
open Srt

abbrev setsV : Value := .func (.func 15) #[] #[]
def keyL (e : SL) : Int := Stk.rank e.s
theorem SL.Good.mods {w w' : World} {b : Nat} {e : SL} (h : e.Good w b) (hm : Mods [b] w w') : e.Good w' b :=
  ⟨h.1, ReadsInt.mods h.2.1 hm (fun ad ha => by have := (h.2.2 ad ha).1; simpa using this), fun ad ha => ⟨(h.2.2 ad ha).1, Nat.lt_of_lt_of_le (h.2.2 ad ha).2 hm.size⟩⟩
def RowL (w : World) (base b n cap : Nat) (xs : List SL) : Prop := w.ownsRow base 28 1 (.slice (some ⟨b, 0, none⟩) n cap) n (xs.map SL.val)
theorem RowL.length {w : World} {base b n cap : Nat} {xs : List SL} (H : RowL w base b n cap xs) : xs.length = n := by have := H.1; simpa using this
theorem RowL.at {w : World} {base b n cap : Nat} {xs : List SL} (H : RowL w base b n cap xs) (i : Nat) (e : SL) (h : xs[i]? = some e) : w.cell? ⟨b, i, none⟩ = some e.val ∧ w.frozen? ⟨b, i, none⟩ = false := by
  have hi : i < n := by have := (List.getElem?_eq_some_iff.1 h).1; rwa [H.length] at this
  refine ⟨?_, World.ownsRow.frozenAt H i⟩
  rw [World.ownsRow.cellAt H i (by omega), List.getElem?_map, h]; rfl
theorem RowL.set {w : World} {base b n cap : Nat} {xs : List SL} (H : RowL w base b n cap xs) (i : Nat) (e : SL) : RowL (w.setCell ⟨b, i, none⟩ (.slice e.A e.n e.c)) base b n cap (xs.set i e) := by
  have h := (World.ownsRow.stored H i e.val).1
  unfold RowL
  rw [List.map_set]; exact h
theorem RowL.drew {w : World} {base b n cap : Nat} {xs : List SL} (H : RowL w base b n cap xs) : RowL w.drew base b n cap xs := World.ownsRow.drew H
theorem RowL.mods {S : List Nat} {w w' : World} {base b n cap : Nat} {xs : List SL} (H : RowL w base b n cap xs) (hm : Mods S w w') (hb : b ∉ S) : RowL w' base b n cap xs := by
  refine ⟨H.1, ?_⟩
  rcases H.2 with ⟨h', _⟩ | ⟨g, c, cur, h', h1, h2, h3⟩
  · cases h'
  · injection h' with h4 h5 h6
    injection h4 with h4
    injection h4 with h4
    subst h4 h6
    exact .inr ⟨b, cap, cur, rfl, h1, hm.blk h2 hb, h3⟩
theorem RowL.drewN {w : World} {base b n cap : Nat} {xs : List SL} (H : RowL w base b n cap xs) (m : Nat) : RowL (w.drewN m) base b n cap xs := H.mods ((Mods.refl [] _).drewN m) (by simp)

set_option maxHeartbeats 2000000 in
theorem insertionL (base b n cap : Nat) (p s r : List SL) (w : World) (i j : Int) (hi : i = p.length) (hj : j = p.length + s.length) (hn : n ≤ 140737488351232)
    (hg : ∀ x ∈ s, SL.Good w b x) (H : RowL w base b n cap (p ++ s ++ r)) :
    Calls Try.prog 37 #[.slice (some ⟨b, 0, none⟩) n cap, .int .i64 i, .int .i64 j, setsV] w
      fun e w' => e = .returned (.tuple #[]) ∧ (∃ s', Sorted keyL s' ∧ FEq keyL s s' ∧ RowL w' base b n cap (p ++ s' ++ r)) ∧ Mods [b] w w' := by
  have hlen := H.length
  simp only [List.length_append] at hlen
  have HR := Lib.hid H; have HG := Lib.hid hg
  have hb0 : 0 ≤ i ∧ i ≤ j ∧ j ≤ n := by omega
  obtain ⟨h0, h1, h2⟩ := hb0
  have HI := Lib.hid hi; have HJ := Lib.hid hj; have HL := Lib.hid hlen
  have HS : Hid (j - i = (s.length : Int)) := Lib.hid (show j - i = (s.length : Int) from by omega)
  clear H hg hi hj hlen
  have cm : Hid (∀ wr, Mods [b] w wr → ∀ m, ∀ x ∈ s, SL.Good (wr.drewN m) b x) := Lib.hid (show ∀ wr, Mods [b] w wr → ∀ m, ∀ x ∈ s, SL.Good (wr.drewN m) b x from fun wr hm m x hx => (HG.out x hx).mods (hm.drewN m))
  by_cases hs1 : j ≤ i + 1
  · have hsl : Sorted keyL s := by
      have := HS.out
      match s, this with
      | [], _ => exact sorted_nil _
      | [x], _ => exact sorted_one _ x
      | x :: y :: t, h => simp at h; omega
    have HSL := Lib.hid hsl; clear hsl
    go_enter Try.func37, Try.ntmps37
    go_wp2
    go_loopw [8, 9] (fun x y wr => x = .int .i64 (i + 1) ∧ wr = w) (fun x y _ => 0)
    case atStart => exact ⟨rfl, rfl⟩
    case round =>
      obtain ⟨rfl, rfl⟩ := hrel
      go_wp2
      go_end0
      exact ⟨rfl, ⟨s, HSL.out, FEq.refl _ _, HR.out⟩, Mods.refl _ _⟩
  · obtain ⟨a, rfl⟩ := Int.eq_ofNat_of_zero_le h0
    go_enter Try.func37, Try.ntmps37
    go_wp2
    go_loopw [8, 9] (fun x y wr => ∃ (S T : List SL) (m : Nat), x = .int .i64 ((a : Int) + m) ∧ Hid (S.length = m) ∧ 0 < m ∧ (a : Int) + m ≤ j ∧ Hid ((a : Int) + m + T.length = j) ∧ Hid (Sorted keyL S ∧ FEq keyL s (S ++ T)) ∧ Hid (RowL wr base b n cap (p ++ S ++ T ++ r)) ∧ Hid (Mods [b] w wr)) (fun x _ _ => (j - intOf x).toNat)
    case atStart =>
      have h := HS.out
      have hr := HR.out
      match s, h, hr with
      | [], h, _ => simp at h; omega
      | x :: t, h, hr =>
        simp at h
        exact ⟨[x], t, 1, by simp, rfl, by omega, by omega, by show _ = j; omega, ⟨sorted_one _ x, FEq.refl _ _⟩, by show RowL _ _ _ _ _ _; simpa using hr, Mods.refl _ _⟩
    case round =>
      obtain ⟨S, T, m, rfl, HSm, hm0, hmj, HST, HSF, HR1, HM⟩ := hrel
      by_cases hlt : (a : Int) + m < j
      · obtain ⟨z, T', hT'⟩ : ∃ z T', T = z :: T' := by
          have h := HST.out
          cases T with
          | nil => simp at h; omega
          | cons z T' => exact ⟨z, T', rfl⟩
        subst hT'
        obtain ⟨wo, hwo⟩ : ∃ wo : World, wo = wr := ⟨_, rfl⟩
        subst hwo
        go_wp2
        go_loopw [9] (fun y wr => ∃ (L R : List SL) (l : Nat), y = .int .i64 ((a : Int) + l) ∧ Hid (L.length = l) ∧ Hid (L.length + R.length = m) ∧ l ≤ m ∧ Hid (Sorted keyL (L ++ R) ∧ (∀ y ∈ R, keyL z < keyL y) ∧ FEq keyL s (L ++ z :: R ++ T')) ∧ Hid (RowL wr base b n cap (p ++ L ++ z :: R ++ T' ++ r)) ∧ Hid (Mods [b] w wr)) (fun y _ => (intOf y).toNat)
        case atStart => exact ⟨S, [], m, rfl, HSm.out, by simpa [Hid] using HSm.out, Nat.le_refl _, ⟨by simpa using HSF.out.1, by simp, by simpa using HSF.out.2⟩, by simpa [Hid] using HR1.out, HM.out⟩
        case round =>
          obtain ⟨L, R, l, rfl, HLl, HLR, hLS, HF, HR2, HM2⟩ := hrel
          have hout : Hid (∀ w', RowL w' base b n cap (p ++ L ++ z :: R ++ T' ++ r) → Sorted keyL (L ++ z :: R) → (L ++ z :: R).length = m + 1 ∧ Sorted keyL (L ++ z :: R) ∧ FEq keyL s ((L ++ z :: R) ++ T') ∧ RowL w' base b n cap (p ++ (L ++ z :: R) ++ T' ++ r)) :=
            Lib.hid (show ∀ w', RowL w' base b n cap (p ++ L ++ z :: R ++ T' ++ r) → Sorted keyL (L ++ z :: R) → (L ++ z :: R).length = m + 1 ∧ Sorted keyL (L ++ z :: R) ∧ FEq keyL s ((L ++ z :: R) ++ T') ∧ RowL w' base b n cap (p ++ (L ++ z :: R) ++ T' ++ r) from
              fun w' h hs => ⟨by have := HLR.out; simp; omega, hs, by simpa using HF.out.2.2, by simpa using h⟩)
          by_cases hl : l = 0
          · have hL : L = [] := by have := HLl.out; rw [hl] at this; exact List.eq_nil_of_length_eq_zero this
            have hdec : decide ((a : Int) < (a : Int) + (l : Int)) = false := by simp; omega
            have hfin := hout.out
            rw [hL] at hfin
            have hs0 : Sorted keyL ([] ++ z :: R) := insert_done (by have := HF.out.1; rwa [hL] at this) HF.out.2.1 (by simp)
            have hr0 := HR2.out
            rw [hL] at hr0
            have HS0 := Lib.hid hs0; have HFIN := Lib.hid hfin; have HR0 := Lib.hid hr0
            clear hL hs0 hfin hr0 hl
            go_wp2
            go_quiet (fail)
            go_wp2
            go_roundw
            case rel =>
              obtain ⟨q1, q2, q3, q4⟩ := HFIN.out _ (HR0.out.drewN _) HS0.out
              refine ⟨_, T', m + 1, by go_num, q1, by omega, by omega, ?_, ⟨q2, q3⟩, q4, HM2.out.drewN _⟩
              have := HST.out; simp at this; show _ = j; simp; omega
            case measure => simp [intOf]; omega
          · obtain ⟨l', rfl⟩ : ∃ l', l = l' + 1 := ⟨l - 1, by omega⟩
            obtain ⟨L', y, hL'⟩ : ∃ L' y, L = L' ++ [y] := by
              have := HLl.out
              rcases List.eq_nil_or_concat L with e | ⟨L', y, e⟩
              · rw [e] at this; simp at this
              · exact ⟨L', y, by simpa using e⟩
            have hL'l : L'.length = l' := by have := HLl.out; rw [hL'] at this; simpa using this
            have hpl : p.length = a := by have := HI.out; omega
            have hr := HR2.out
            rw [hL'] at hr
            have hfit : a + l' + 1 < n := by
              have h1 := hr.length
              simp at h1; omega
            have ez : (p ++ (L' ++ [y]) ++ z :: R ++ T' ++ r)[a + l' + 1]? = some z := by
              have e : p ++ (L' ++ [y]) ++ z :: R ++ T' ++ r = (p ++ L' ++ [y]) ++ z :: (R ++ T' ++ r) := by simp
              rw [e]; exact get_mid _ _ _ _ (by simp; omega)
            have ey : (p ++ (L' ++ [y]) ++ z :: R ++ T' ++ r)[a + l']? = some y := by
              have e : p ++ (L' ++ [y]) ++ z :: R ++ T' ++ r = (p ++ L') ++ y :: (z :: R ++ T' ++ r) := by simp
              rw [e]; exact get_mid _ _ _ _ (by simp; omega)
            obtain ⟨hc1, hf1⟩ := hr.at _ _ ez
            obtain ⟨hc2, hf2⟩ := hr.at _ _ ey
            have hgz : z ∈ s := (HF.out.2.2.mem z).2 (by simp)
            have hgy : y ∈ s := (HF.out.2.2.mem y).2 (by simp [hL'])
            have hord := fun q => less_sets b z y (wr.drewN q) (cm.out wr HM2.out q z hgz) (cm.out wr HM2.out q y hgy)
            have hcn := Stk.cv_neg (cm.out wr HM2.out 0 z hgz).1 (cm.out wr HM2.out 0 y hgy).1
            have HORD := Lib.hid hord; have HR3 := Lib.hid hr; have HL' := Lib.hid hL'; have HPL := Lib.hid hpl; have HLL := Lib.hid hL'l
            have HCN : Hid (Stk.cv z.s y.s < 0 ↔ keyL z < keyL y) := Lib.hid hcn
            clear hr ez ey hgz hgy hord hL' hpl hL'l hcn
            generalize Stk.cv z.s y.s = cz at *
            unfold SL.val at hc1 hc2 HORD
            have hdec : decide ((a : Int) < (a : Int) + ((l' : Int) + 1)) = true := by simp; omega
            have hw : IntKind.i64.wrap ((a : Int) + ((l' : Int) + 1) - 1) = (a : Int) + (l' : Int) := by rw [IntWalk.i64_in _ (by omega)]; omega
            have hi1 : (a : Int) + ((l' : Int) + 1) < (n : Int) := by omega
            have hi2 : (a : Int) + (l' : Int) < (n : Int) := by omega
            have hi3 : (0 : Int) ≤ (a : Int) + ((l' : Int) + 1) := by omega
            have hi4 : (0 : Int) ≤ (a : Int) + (l' : Int) := by omega
            have ht1 : ((a : Int) + ((l' : Int) + 1)).toNat = a + (l' + 1) := by omega
            have ht2 : ((a : Int) + (l' : Int)).toNat = a + l' := by omega
            rw [Nat.add_assoc] at hc1 hf1
            by_cases hk : keyL z < keyL y
            · have hd : cz < 0 := HCN.out.2 hk
              have hdb : decide (cz < 0) = true := decide_eq_true hd
              go_wp2
              go_quiet ((go_at_call 15; exact Calls.quiet_of_same ((HORD.out _).mono fun _ _ h => ⟨h.1, h.2.symm⟩)))
              go_wp2
              go_region
              go_wp2
              go_roundw
              case rel =>
                have hlz : keyL z < keyL y := hk
                have hF := HF.out
                rw [HL'.out] at hF
                refine ⟨L', y :: R, l', rfl, HLL.out, ?_, by omega, ⟨sorted_mid hF.1, ?_, ?_⟩, ?_, ((HM2.out.drewN _).setCell (by simp) _).setCell (by simp) _⟩
                · have h1 := HLR.out
                  rw [HL'.out] at h1
                  show _ = _
                  simp at h1 ⊢; omega
                · intro q hq
                  rcases List.mem_cons.1 hq with e | e
                  · rw [e]; exact hlz
                  · exact hF.2.1 q e
                · refine hF.2.2.trans ?_
                  have h := FEq.step (key := keyL) L' (R ++ T') z y hlz
                  simpa using h
                · have h := ((HR3.out.drewN (nq + 1)).set (a + (l' + 1)) y).set (a + l') z
                  have e1 : p ++ (L' ++ [y]) ++ z :: R ++ T' ++ r = (p ++ L') ++ y :: z :: (R ++ T' ++ r) := by simp
                  have hpl : (p ++ L').length = a + l' := by have := HPL.out; have := HLL.out; simp; omega
                  rw [e1, swap_adj (p ++ L') (R ++ T' ++ r) y z (a + l') (a + (l' + 1)) (by omega) (by omega)] at h
                  show RowL _ _ _ _ _ _
                  simpa using h
              case measure => simp [intOf]; omega
            · have hd : ¬ cz < 0 := fun h => hk (HCN.out.1 h)
              have hdb : decide (cz < 0) = false := decide_eq_false hd
              have hfin : Sorted keyL (L ++ z :: R) := by
                refine insert_done HF.out.1 HF.out.2.1 ?_
                have h1 := HF.out.1
                rw [HL'.out] at h1 ⊢
                exact last_le (sorted_app.1 h1).1 (by omega)
              have HFIN := Lib.hid hfin; clear hfin
              go_wp2
              go_quiet ((go_at_call 15; exact Calls.quiet_of_same ((HORD.out _).mono fun _ _ h => ⟨h.1, h.2.symm⟩)))
              go_wp2
              go_roundw
              case rel =>
                obtain ⟨q1, q2, q3, q4⟩ := hout.out _ (HR2.out.drewN _) HFIN.out
                refine ⟨_, T', m + 1, by go_num, q1, by omega, by omega, ?_, ⟨q2, q3⟩, q4, HM2.out.drewN _⟩
                have := HST.out; simp at this; show _ = j; simp; omega
              case measure => simp [intOf]; omega
      · go_wp2
        go_end0
        have hT : T = [] := by have h := HST.out; cases T with | nil => rfl | cons => simp at h; omega
        have hr := HR1.out
        have hf := HSF.out
        rw [hT] at hr hf
        exact ⟨rfl, ⟨S, hf.1, by simpa using hf.2, by simpa using hr⟩, HM.out⟩
end Go.Proofs.Ytbnelomknjnplaa
