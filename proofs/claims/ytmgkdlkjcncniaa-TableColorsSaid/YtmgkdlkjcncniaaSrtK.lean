/- The library's pdqsort at 32-bit numbers, slices.Sort. -/
import Derived.Test.YtmgkdlkjcncniaaSrtD
import Derived.Test.YtmgkdlkjcncniaaSrtF
import Derived.Test.YtmgkdlkjcncniaaSrtG
import Derived.Test.YtmgkdlkjcncniaaSrtH
import Derived.Test.YtmgkdlkjcncniaaSrtI
import Derived.Test.YtmgkdlkjcncniaaSrtJ
namespace Go.Proofs.Ytmgkdlkjcncniaa
open Go.RowKit
open Go.Proofs.YtmgkdlkjcncniaaW.PrintWords

theorem pe_in (a c : Nat) : ∀ (m i j : Nat) (d : Array Int), j + 1 - i ≤ m → i ≤ c + 1 → j ≤ c → i ≤ (Sort.partEqLoop Sort.ltInt a i j d).1 ∧ (Sort.partEqLoop Sort.ltInt a i j d).1 ≤ c + 1 := by
  intro m
  induction m with
  | zero =>
    intro i j d hm hi hj
    obtain ⟨I, hI⟩ : ∃ I, Sort.scanUp (fun x => !Sort.ltInt d[a]! x) d j i = I := ⟨_, rfl⟩
    obtain ⟨J, hJ⟩ : ∃ J, Sort.scanDown (fun x => Sort.ltInt d[a]! x) d I j = J := ⟨_, rfl⟩
    rw [pe_eq hI hJ]
    have g1 : i ≤ I := hI ▸ up_ge _ d j i
    have g2 : J ≤ j := hJ ▸ down_le _ d I j
    have g3 : I ≤ c + 1 := hI ▸ up_le _ d j i (c + 1) hi (by omega)
    rw [if_pos (by omega)]
    exact ⟨g1, g3⟩
  | succ m ih =>
    intro i j d hm hi hj
    obtain ⟨I, hI⟩ : ∃ I, Sort.scanUp (fun x => !Sort.ltInt d[a]! x) d j i = I := ⟨_, rfl⟩
    obtain ⟨J, hJ⟩ : ∃ J, Sort.scanDown (fun x => Sort.ltInt d[a]! x) d I j = J := ⟨_, rfl⟩
    rw [pe_eq hI hJ]
    have g1 : i ≤ I := hI ▸ up_ge _ d j i
    have g2 : J ≤ j := hJ ▸ down_le _ d I j
    have g3 : I ≤ c + 1 := hI ▸ up_le _ d j i (c + 1) hi (by omega)
    by_cases h : I > J
    · rw [if_pos h]; exact ⟨g1, g3⟩
    · rw [if_neg h]
      have := ih (I + 1) (J - 1) (Sort.swp d I J) (by omega) (by omega) (by omega)
      omega
theorem peq_in {d : Array Int} {a b pv : Nat} (h : a < b) : a < (Sort.partitionEqual Sort.ltInt d a b pv).1 ∧ (Sort.partitionEqual Sort.ltInt d a b pv).1 ≤ b := by
  have := pe_in a (b - 1) (b - 1 + 1 - (a + 1)) (a + 1) (b - 1) (Sort.swp d a pv) (Nat.le_refl _) (by omega) (Nat.le_refl _)
  unfold Sort.partitionEqual
  omega

theorem swp_size (d : Array Int) (i j : Nat) : (Sort.swp d i j).size = d.size := by unfold Sort.swp; simp
theorem shd_size : ∀ (j : Nat) (d : Array Int), (Sort.shiftDown Sort.ltInt j d).size = d.size
  | 0, d => rfl
  | j + 1, d => by
    rw [Sort.shiftDown]
    split
    · rfl
    · rw [shd_size j, swp_size]
theorem shu_size (b : Nat) : ∀ (m j : Nat) (d : Array Int), b - j ≤ m → (Sort.shiftUp Sort.ltInt b j d).size = d.size := by
  intro m
  induction m with
  | zero => intro j d h; rw [Sort.shiftUp, if_neg (by omega)]
  | succ m ih =>
    intro j d h
    rw [Sort.shiftUp]
    split
    · split
      · rfl
      · rw [ih _ _ (by omega), swp_size]
    · rfl
theorem pins_size (a b : Nat) : ∀ (s i : Nat) (d : Array Int), (Sort.partialIns Sort.ltInt a b s i d).1.size = d.size := by
  intro s
  induction s with
  | zero => intro i d; rfl
  | succ s ih =>
    intro i d
    rw [pi_eq rfl rfl rfl rfl]
    split
    · rfl
    · split
      · rfl
      · rw [ih]
        have e1 : ∀ (p : Prop) [Decidable p] (x y : Array Int), x.size = d.size → y.size = d.size → (if p then x else y).size = d.size := by intro p _ x y h1 h2; split <;> assumption
        have h2 : (if Sort.scanSorted Sort.ltInt d b i - a ≥ 2 then Sort.shiftDown Sort.ltInt (Sort.scanSorted Sort.ltInt d b i - 1) (Sort.swp d (Sort.scanSorted Sort.ltInt d b i) (Sort.scanSorted Sort.ltInt d b i - 1)) else Sort.swp d (Sort.scanSorted Sort.ltInt d b i) (Sort.scanSorted Sort.ltInt d b i - 1)).size = d.size :=
          e1 _ _ _ (by rw [shd_size, swp_size]) (swp_size _ _ _)
        exact e1 _ _ _ (by rw [shu_size b _ _ _ (Nat.le_refl _)]; exact h2) h2
theorem partial_size (d : Array Int) (a b n : Nat) (h : d.size = n) : (Sort.partialInsertionSort Sort.ltInt d a b).1.size = n := by
  unfold Sort.partialInsertionSort
  rw [pins_size]; exact h

theorem pdq_few {d : Array Int} {a b lim : Nat} {wb wp : Bool} (h : b - a ≤ 12) : Sort.pdq Sort.ltInt d a b lim wb wp = Sort.insertionSort Sort.ltInt d a b := by
  rw [Sort.pdq, if_pos h]
theorem pdq_heap {d : Array Int} {a b : Nat} {wb wp : Bool} (h : ¬ b - a ≤ 12) : Sort.pdq Sort.ltInt d a b 0 wb wp = Sort.heapSort Sort.ltInt d a b := by
  rw [Sort.pdq, if_neg h, if_pos rfl]
theorem pdq_on {d d1 d2 : Array Int} {a b lim lim1 pv : Nat} {wb wp cnd : Bool} {c : Nat × Sort.Hint} {hint : Sort.Hint} {pi : Array Int × Bool} {E : Nat × Array Int} {T : Nat × Bool × Array Int}
    (hL : ¬ b - a ≤ 12) (hl : ¬ lim = 0) (h1 : (if !wb then Sort.breakPatterns d a b else d) = d1) (hl1 : (if !wb then lim - 1 else lim) = lim1) (hc : Sort.choosePivot Sort.ltInt d1 a b = c)
    (h2 : (if c.2 = .decreasing then Sort.reverseRange d1 a b else d1) = d2) (hp : (if c.2 = .decreasing then (b - 1) - (c.1 - a) else c.1) = pv) (hh : (if c.2 = .decreasing then Sort.Hint.increasing else c.2) = hint)
    (hcn : (wb && wp && decide (hint = .increasing)) = cnd) (hpi : (if cnd then Sort.partialInsertionSort Sort.ltInt d2 a b else (d2, false)) = pi) (hE : Sort.partitionEqual Sort.ltInt pi.1 a b pv = E) (hT : Sort.partition Sort.ltInt pi.1 a b pv = T)
    (hE1 : a < E.1 ∧ E.1 ≤ b) (hT1 : a ≤ T.1 ∧ T.1 < b) :
    Sort.pdq Sort.ltInt d a b lim wb wp = if pi.2 then pi.1 else if a > 0 && !Sort.ltInt pi.1[a - 1]! pi.1[pv]! then Sort.pdq Sort.ltInt E.2 E.1 b lim1 wb wp
      else if T.1 - a < b - T.1 then Sort.pdq Sort.ltInt (Sort.pdq Sort.ltInt T.2.2 a T.1 lim1 true true) (T.1 + 1) b lim1 (decide (T.1 - a ≥ (b - a) / 8)) T.2.1
        else Sort.pdq Sort.ltInt (Sort.pdq Sort.ltInt T.2.2 (T.1 + 1) b lim1 true true) a T.1 lim1 (decide (b - T.1 ≥ (b - a) / 8)) T.2.1 := by
  subst h1 hl1 hc h2 hp hh hcn hpi hE hT
  conv => lhs; rw [Sort.pdq]
  rw [if_neg hL, if_neg hl]
  simp only [hE1, hT1]
  simp

set_option maxRecDepth 100000 in
set_option maxHeartbeats 8000000 in
theorem pdqU : ∀ (N base g n cap a b lim : Nat) (d : Array Int) (w : World), b - a = N → n ≤ 1152921504606846975 → a ≤ b → b ≤ n → lim ≤ 1000 → RowU w base g n cap d → g < w.heap.size →
    Calls Try.prog 36 #[.slice (some ⟨g, 0, none⟩) n cap, .int .i64 a, .int .i64 b, .int .i64 lim] w
      fun e w' => e = .returned (.tuple #[]) ∧ RowU w' base g n cap (Sort.pdq Sort.ltInt d a b lim true true) ∧ Mods [g] w w' := by
  intro N
  induction N using Nat.strongRecOn with
  | ind N ih =>
  intro base g n cap a b lim d w hN hn hab hb hlim H hg
  have IH := Lib.hid ih
  have HR := Lib.hid H
  have HG := Lib.hid hg
  obtain ⟨Z, hZ⟩ : ∃ Z, Sort.pdq Sort.ltInt d a b lim true true = Z := ⟨_, rfl⟩
  rw [hZ]
  have HZ := Lib.hid hZ
  have HN := Lib.hid hN
  clear H ih hZ hN hg
  go_enter Try.func36, Try.ntmps36
  go_wp2_with fail
  go_loopw [1, 2, 3, 8, 9, 10, 11, 12, 13, 14, 15, 16, 17, 18] (fun va vb vl v8 v9 _ _ _ _ _ _ _ _ _ wr => ∃ (a' b' lim' : Nat) (wb wp : Bool) (e : Array Int), va = .int .i64 a' ∧ vb = .int .i64 b' ∧ vl = .int .i64 lim' ∧ v8 = .bool wb ∧ v9 = .bool wp ∧ a' ≤ b' ∧ b' ≤ n ∧ lim' ≤ 1000 ∧ Hid (b' - a' ≤ N) ∧ Hid (RowU wr base g n cap e) ∧ Hid (Sort.pdq Sort.ltInt e a' b' lim' wb wp = Z) ∧ Hid (Mods [g] w wr)) (fun va vb _ _ _ _ _ _ _ _ _ _ _ _ _ => (intOf vb - intOf va).toNat)
  case atStart => exact ⟨a, b, lim, true, true, d, rfl, rfl, rfl, rfl, rfl, hab, hb, hlim, Nat.le_of_eq HN.out, HR.out, HZ.out, Mods.refl _ _⟩
  case round =>
    obtain ⟨a', b', lim', wb, wp, e, rfl, rfl, rfl, rfl, rfl, hab', hb', hlim', HN', HRE, HPZ, HME⟩ := hrel
    clear HR HZ HN
    have HGW := Lib.hid (show g < wr.heap.size from by have := HME.out.size; have := HG.out; omega)
    obtain ⟨L, hL⟩ : ∃ L, b' - a' = L := ⟨_, rfl⟩
    have hL' : (b' : Int) - (a' : Int) = (L : Int) := by omega
    have HL := Lib.hid hL
    by_cases h12 : L ≤ 12
    · have hd : decide ((L : Int) ≤ 12) = true := by simp; omega
      have hz := HPZ.out
      rw [pdq_few (by omega)] at hz
      have HZ := Lib.hid hz
      clear hz hL
      go_wp2_with fail
      refine (insertionU base g n cap a' b' e wr hn hab' hb' HRE.out).mono ?_
      rintro e1 w1 ⟨rfl, hr1, hm1⟩
      rw [HZ.out] at hr1
      have HM1 := Lib.hid (HME.out.trans hm1)
      go_wp2_with fail
      refine bodyPost_ret (results_none rfl _ _ _) rfl ?_
      exact ⟨rfl, hr1, HM1.out⟩
    have hd : decide ((L : Int) ≤ 12) = false := by simp; omega
    by_cases hl0 : lim' = 0
    · subst hl0
      have hz := HPZ.out
      rw [pdq_heap (by omega)] at hz
      have HZ := Lib.hid hz
      clear hz hL
      go_wp2_with fail
      refine (heapSortU base g n cap a' b' e wr hn (by omega) hb' HRE.out).mono ?_
      rintro e1 w1 ⟨rfl, hr1, hm1⟩
      rw [HZ.out] at hr1
      have HM1 := Lib.hid (HME.out.trans hm1)
      go_wp2_with fail
      refine bodyPost_ret (results_none rfl _ _ _) rfl ?_
      exact ⟨rfl, hr1, HM1.out⟩
    have hlz : ((lim' : Int) == 0) = false := by simp; omega
    have hlz2 : ¬ (lim' : Int) = 0 := by omega
    have hlt : a' < b' := by omega
    obtain ⟨d1, h1⟩ : ∃ d1, (if !wb then Sort.breakPatterns e a' b' else e) = d1 := ⟨_, rfl⟩
    obtain ⟨lim1, hl1⟩ : ∃ lim1, (if !wb then lim' - 1 else lim') = lim1 := ⟨_, rfl⟩
    obtain ⟨c, hc⟩ : ∃ c, Sort.choosePivot Sort.ltInt d1 a' b' = c := ⟨_, rfl⟩
    obtain ⟨d2, h2⟩ : ∃ d2, (if c.2 = .decreasing then Sort.reverseRange d1 a' b' else d1) = d2 := ⟨_, rfl⟩
    obtain ⟨pv, hp⟩ : ∃ pv, (if c.2 = .decreasing then (b' - 1) - (c.1 - a') else c.1) = pv := ⟨_, rfl⟩
    obtain ⟨hint, hh⟩ : ∃ hint, (if c.2 = .decreasing then Sort.Hint.increasing else c.2) = hint := ⟨_, rfl⟩
    obtain ⟨cnd, hcn⟩ : ∃ cnd, (wb && wp && decide (hint = .increasing)) = cnd := ⟨_, rfl⟩
    obtain ⟨pi, hpi⟩ : ∃ pi, (if cnd then Sort.partialInsertionSort Sort.ltInt d2 a' b' else (d2, false)) = pi := ⟨_, rfl⟩
    obtain ⟨E, hE⟩ : ∃ E, Sort.partitionEqual Sort.ltInt pi.1 a' b' pv = E := ⟨_, rfl⟩
    obtain ⟨T, hT⟩ : ∃ T, Sort.partition Sort.ltInt pi.1 a' b' pv = T := ⟨_, rfl⟩
    have hc1 := Sort.choosePivot_holds Sort.ltInt d1 a' b' hlt
    rw [hc] at hc1
    have hpv : a' ≤ pv ∧ pv < b' := by rw [← hp]; split <;> omega
    have hE1 : a' < E.1 ∧ E.1 ≤ b' := by rw [← hE]; exact peq_in hlt
    have HE1 := Lib.hid hE1
    have PIS := Lib.hid (show pi.1.size = n from by
      have s1 : d1.size = n := by
        rw [← h1]; split
        · have := (Sort.breakPatterns_holds e a' b' hab' (by rw [HRE.out.size]; exact hb')).1; rw [this]; exact HRE.out.size
        · exact HRE.out.size
      have s2 : d2.size = n := by
        rw [← h2]; split
        · have := (Sort.reverseRange_holds d1 a' b' hab' (by rw [s1]; exact hb')).1; rw [this]; exact s1
        · exact s1
      rw [← hpi]; split
      · exact partial_size _ _ _ _ s2
      · exact s2)
    have hT1 : a' ≤ T.1 ∧ T.1 < b' := by
      have := Sort.partition_holds Sort.ltInt Sort.swo_ltInt pi.1 a' b' pv hpv.1 hpv.2 (by rw [PIS.out]; exact hb')
      rw [hT] at this
      exact ⟨this.1, this.2.1⟩
    have HT1 := Lib.hid hT1
    have hpdq := pdq_on (by omega) hl0 h1 hl1 hc h2 hp hh hcn hpi hE hT hE1 hT1
    rw [HPZ.out] at hpdq
    have PDQ := Lib.hid hpdq
    clear hpdq hT1
    have hl1b : lim1 ≤ 1000 := by rw [← hl1]; split <;> omega
    have H1 := Lib.hid h1; have HL1 := Lib.hid hl1; have HC := Lib.hid hc; have H2 := Lib.hid h2; have HP := Lib.hid hp; have HH := Lib.hid hh; have HCN := Lib.hid hcn; have HPI := Lib.hid hpi; have HE := Lib.hid hE; have HT := Lib.hid hT
    obtain ⟨hp1, hp2⟩ := hpv
    clear hc1 h1 hl1 hc h2 hp hh hcn hpi hE hT hL hE1
    go_upto_if 35 with fail
    go_cut [3] from 19 to 133 (fun t wx => t = .int .i64 lim1 ∧ Hid (RowU wx base g n cap d1) ∧ Hid (Mods [g] w wx))
    case first =>
      cases wb with
      | true =>
        have h1 := H1.out; have h2 := HL1.out
        rw [if_neg (by simp)] at h1 h2
        subst h1 h2
        go_wp2_with fail
        go_meet
        exact ⟨rfl, HRE.out, HME.out⟩
      | false =>
        have h1 := H1.out; have h2 := HL1.out
        rw [if_pos (by simp)] at h1 h2
        have HB := Lib.hid h1
        have hl2 : (lim' : Int) - 1 = (lim1 : Int) := by omega
        clear h1 h2
        go_wp2_with fail
        refine (breakU base g n cap a' b' e wr hn (by have := HL.out; omega) hb' HRE.out HGW.out).mono ?_
        rintro e1 w1 ⟨rfl, hr1, hm1⟩
        rw [HB.out] at hr1
        have HR1 := Lib.hid hr1; have HM1 := Lib.hid (HME.out.trans hm1)
        clear hr1 hm1
        go_wp2_with fail
        go_meet
        exact ⟨rfl, HR1.out, HM1.out⟩
    case rest =>
      obtain ⟨rfl, HR1, HM1⟩ := hcut
      have HGC := Lib.hid (show g < wc.heap.size from by have := HM1.out.size; have := HG.out; omega)
      go_wp2_with fail
      refine (choosePivotU base g n cap a' b' d1 wc hn hlt hb' HR1.out HGC.out).mono ?_
      rw [HC.out]
      rintro e1 w2 ⟨rfl, hm2⟩
      have HR2 := Lib.hid (HR1.out.mods hm2 (by simp)); have HM2 := Lib.hid (HM1.out.trans (hm2.mono (by simp)))
      clear hm2 HR1 HM1
      go_upto_if 50 with fail
      go_cut [11, 12] from 19 to 133 (fun t u wx => t = .int .i64 pv ∧ u = .int .i64 (hintI hint) ∧ Hid (RowU wx base g n cap d2) ∧ Hid (Mods [g] w wx))
      case first =>
        obtain ⟨c1, c2⟩ := c
        cases c2 with
        | decreasing =>
          have h2 := H2.out; have hp := HP.out; have hh := HH.out
          rw [if_pos rfl] at h2 hp hh
          subst hh
          have HH2 := Lib.hid h2
          have hp' : (b' : Int) - 1 - ((c1 : Int) - (a' : Int)) = (pv : Int) := by
            have := Sort.choosePivot_holds Sort.ltInt d1 a' b' hlt
            rw [HC.out] at this
            dsimp only at this hp
            omega
          clear h2 hp
          simp only [hintI] at *
          go_wp2_with fail
          refine (reverseU base g n cap a' b' d1 w2 hn hlt hb' HR2.out).mono ?_
          rintro e1 w3 ⟨rfl, hr3, hm3⟩
          rw [HH2.out] at hr3
          have HR3 := Lib.hid hr3; have HM3 := Lib.hid (HM2.out.trans hm3)
          clear hr3 hm3
          go_wp2_with fail
          go_meet
          exact ⟨rfl, rfl, HR3.out, HM3.out⟩
        | increasing =>
          have h2 := H2.out; have hp := HP.out; have hh := HH.out
          rw [if_neg (by simp)] at h2 hp hh
          subst hh h2 hp
          simp only [hintI] at *
          go_wp2_with fail
          go_meet
          exact ⟨rfl, rfl, HR2.out, HM2.out⟩
        | unknown =>
          have h2 := H2.out; have hp := HP.out; have hh := HH.out
          rw [if_neg (by simp)] at h2 hp hh
          subst hh h2 hp
          simp only [hintI] at *
          go_wp2_with fail
          go_meet
          exact ⟨rfl, rfl, HR2.out, HM2.out⟩
      case rest =>
        obtain ⟨rfl, rfl, HR3, HM3⟩ := hcut
        clear HR2 HM2
        go_upto_region 15 with fail
        go_cut [68] from 19 to 133 (fun t wx => t = .bool cnd ∧ Hid (RowU wx base g n cap d2) ∧ Hid (Mods [g] w wx))
        case first =>
          have hcn := HCN.out
          cases wb <;> cases wp <;> cases hint <;> (subst hcn; simp only [hintI] at *; go_wp2_with fail; go_meet; exact ⟨rfl, HR3.out, HM3.out⟩)
        case rest =>
          obtain ⟨rfl, HR4, HM4⟩ := hcut
          clear HR3 HM3
          go_upto_if 68 with fail
          go_cut [12] from 19 to 133 (fun _ wx => Hid (pi.2 = false) ∧ Hid (RowU wx base g n cap pi.1) ∧ Hid (Mods [g] w wx))
          case first =>
            cases cnd with
            | true =>
              have hpi := HPI.out
              rw [if_pos rfl] at hpi
              have HPI2 := Lib.hid hpi
              clear hpi
              go_wp2_with fail
              refine (partialU base g n cap a' b' d2 wc hn hlt hb' HR4.out).mono ?_
              rw [HPI2.out]
              rintro e1 w5 ⟨rfl, hr5, hm5⟩
              have HR5 := Lib.hid hr5; have HM5 := Lib.hid (HM4.out.trans hm5)
              clear hr5 hm5
              obtain ⟨lb, hlb⟩ : ∃ lb, pi.2 = lb := ⟨_, rfl⟩
              rw [hlb]
              have HLB := Lib.hid hlb
              clear hlb
              cases lb with
              | true =>
                have hz := PDQ.out
                rw [if_pos HLB.out] at hz
                have HZZ := Lib.hid hz
                clear hz
                go_wp2_with fail
                refine bodyPost_ret (results_none rfl _ _ _) rfl ?_
                exact ⟨rfl, by rw [HZZ.out]; exact HR5.out, HM5.out⟩
              | false =>
                go_wp2_with fail
                go_meet
                exact ⟨HLB.out, HR5.out, HM5.out⟩
            | false =>
              have hpi := HPI.out
              rw [if_neg (by simp)] at hpi
              have HPI2 := Lib.hid hpi
              clear hpi
              go_wp2_with fail
              go_meet
              exact ⟨by show pi.2 = false; rw [← HPI2.out], by show RowU _ _ _ _ _ pi.1; rw [← HPI2.out]; exact HR4.out, HM4.out⟩
          case rest =>
            obtain ⟨HP2, HR5, HM5⟩ := hcut
            clear HR4 HM4
            have hz := PDQ.out
            rw [if_neg (by rw [HP2.out]; simp)] at hz
            obtain ⟨cq, hcq⟩ : ∃ cq, (decide (a' > 0) && !Sort.ltInt pi.1[a' - 1]! pi.1[pv]!) = cq := ⟨_, rfl⟩
            rw [hcq] at hz
            have HCQ := Lib.hid hcq; have HZ2 := Lib.hid hz
            clear hcq hz PDQ
            go_upto_region 17 with fail
            go_cut [87] from 19 to 133 (fun t wx => t = .bool cq ∧ Hid (RowU wx base g n cap pi.1) ∧ Hid (Mods [g] w wx))
            case first =>
              by_cases ha0 : a' = 0
              · have hda : decide ((0 : Int) < (a' : Int)) = false := by simp; omega
                have hcq := HCQ.out
                rw [show decide (a' > 0) = false by simp; omega, Bool.false_and] at hcq
                subst hcq
                go_quiet (fail)
                go_wp2_with fail
                go_meet
                exact ⟨rfl, HR5.out.drewN _, HM5.out.drewN _⟩
              · obtain ⟨k, rfl⟩ : ∃ k, a' = k + 1 := ⟨a' - 1, by omega⟩
                have hda : decide ((0 : Int) < (k : Int) + 1) = true := by first | (simp; done) | (simp; omega)
                have hkn : (k : Int) < n := by omega
                have hpn : (pv : Int) < n := by omega
                obtain ⟨k1, f1⟩ := HR5.out.at_ k (by omega)
                obtain ⟨k2, f2⟩ := HR5.out.at_ pv (by omega)
                have hcq := HCQ.out
                rw [show decide (k + 1 > 0) = true by simp, Bool.true_and, Nat.add_sub_cancel] at hcq
                have HCQ2 := Lib.hid hcq
                clear hcq HCQ
                generalize pi.1[k]! = x at *
                generalize pi.1[pv]! = y at *
                go_quiet (first | (go_at_call 48; first | refine Calls.quiet_of_same (less_any _ _ _) | refine quiet_two (less_any _ _ _)))
                go_wp2_with fail
                go_meet
                exact ⟨by rw [← HCQ2.out], HR5.out.drewN _, HM5.out.drewN _⟩
            case rest =>
              obtain ⟨rfl, HR6, HM6⟩ := hcut
              clear HR5 HM5
              cases cq with
              | true =>
                have hz := HZ2.out
                rw [if_pos rfl] at hz
                have HZ3 := Lib.hid hz
                clear hz HZ2
                go_wp2_with fail
                refine (partitionEqU base g n cap a' b' pv pi.1 wc hn hp1 hp2 hb' HR6.out).mono ?_
                rw [HE.out]
                rintro e1 w7 ⟨rfl, hr7, hm7⟩
                have HR7 := Lib.hid hr7; have HM7 := Lib.hid (HM6.out.trans hm7)
                clear hr7 hm7
                go_wp2_with fail
                go_roundw
                case rel => first | exact ⟨E.1, b', lim1, wb, wp, E.2, rfl, rfl, rfl, rfl, rfl, HE1.out.2, hb', hl1b, by have := HE1.out; have := HN'.out; show _ ≤ _; omega, HR7.out, HZ3.out.symm, HM7.out⟩ | ((repeat apply Exists.intro); exact ⟨⟨E.1, b', lim1, wb, wp, E.2, rfl, rfl, rfl, rfl, rfl, HE1.out.2, hb', hl1b, by have := HE1.out; have := HN'.out; show _ ≤ _; omega, HR7.out, HZ3.out.symm, HM7.out⟩, rfl⟩) | fail
                case measure => have := HE1.out; simp [intOf]; omega
              | false =>
                have hz := HZ2.out
                rw [if_neg (by simp)] at hz
                have HZ3 := Lib.hid hz
                clear hz HZ2
                go_wp2_with fail
                refine (partitionU base g n cap a' b' pv pi.1 wc hn hp1 hp2 hb' HR6.out).mono ?_
                rw [HT.out]
                rintro e1 w7 ⟨rfl, hr7, hm7⟩
                have HR7 := Lib.hid hr7; have HM7 := Lib.hid (HM6.out.trans hm7)
                clear hr7 hm7 HR6 HM6
                obtain ⟨m, ap, t⟩ := T
                obtain ⟨t1, t2⟩ := HT1.out
                dsimp only at t1 t2 HZ3 HR7 ⊢
                have HG7 := Lib.hid (show g < w7.heap.size from by have := HM7.out.size; have := HG.out; omega)
                obtain ⟨lf, hlf⟩ : ∃ lf, m - a' = lf := ⟨_, rfl⟩
                obtain ⟨rt, hrt⟩ : ∃ rt, b' - m = rt := ⟨_, rfl⟩
                obtain ⟨th, hth⟩ : ∃ th, L / 8 = th := ⟨_, rfl⟩
                have hlf' : (m : Int) - (a' : Int) = (lf : Int) := by omega
                have hrt' : (b' : Int) - (m : Int) = (rt : Int) := by omega
                have hth' : (L : Int) / 8 = (th : Int) := by omega
                have hz := HZ3.out
                rw [HL.out, hlf, hrt, hth] at hz
                have HZ4 := Lib.hid hz
                clear hz HZ3
                have hlfb : lf + rt = L := by have := HL.out; omega
                have HLF := Lib.hid hlf; have HRT := Lib.hid hrt
                clear hlf hrt hth
                by_cases hlr : lf < rt
                · have hdl : decide ((lf : Int) < (rt : Int)) = true := by simp; omega
                  have hdl2 : (lf : Int) < (rt : Int) := by omega
                  have hz := HZ4.out
                  rw [if_pos hlr] at hz
                  have hdd : decide ((th : Int) ≤ (lf : Int)) = decide (lf ≥ th) := by simp
                  have HZ5 := Lib.hid hz
                  clear hz HZ4
                  have call := IH.out lf (by have := HN'.out; have := HL.out; omega) base g n cap a' m lim1 t w7 (by have := HLF.out; omega) hn (by omega) (by omega) hl1b HR7.out HG7.out
                  have CALL := Lib.hid call
                  clear call
                  go_wp2_with fail
                  refine CALL.out.mono ?_
                  rintro e1 w8 ⟨rfl, hr8, hm8⟩
                  have HR8 := Lib.hid hr8; have HM8 := Lib.hid (HM7.out.trans hm8)
                  clear hr8 hm8
                  go_wp2_with fail
                  go_roundw
                  case rel => first | exact ⟨m + 1, b', lim1, decide (lf ≥ th), ap, _, by go_num, rfl, rfl, by rw [← hdd], rfl, by omega, hb', hl1b, by have := HN'.out; show _ ≤ _; omega, HR8.out, HZ5.out.symm, HM8.out⟩ | ((repeat apply Exists.intro); exact ⟨⟨m + 1, b', lim1, decide (lf ≥ th), ap, _, by go_num, rfl, rfl, by rw [← hdd], rfl, by omega, hb', hl1b, by have := HN'.out; show _ ≤ _; omega, HR8.out, HZ5.out.symm, HM8.out⟩, rfl⟩) | fail
                  case measure => simp [intOf]; omega
                · have hdl : decide ((lf : Int) < (rt : Int)) = false := by simp; omega
                  have hdl2 : ¬ (lf : Int) < (rt : Int) := by omega
                  have hz := HZ4.out
                  rw [if_neg hlr] at hz
                  have hdd : decide ((th : Int) ≤ (rt : Int)) = decide (rt ≥ th) := by simp
                  have HZ5 := Lib.hid hz
                  clear hz HZ4
                  have call := IH.out (b' - (m + 1)) (by have := HN'.out; have := HL.out; omega) base g n cap (m + 1) b' lim1 t w7 rfl hn (by omega) (by omega) hl1b HR7.out HG7.out
                  rw [show ((m + 1 : Nat) : Int) = (m : Int) + 1 by omega] at call
                  have CALL := Lib.hid call
                  clear call
                  go_wp2_with fail
                  refine CALL.out.mono ?_
                  rintro e1 w8 ⟨rfl, hr8, hm8⟩
                  have HR8 := Lib.hid hr8; have HM8 := Lib.hid (HM7.out.trans hm8)
                  clear hr8 hm8
                  go_wp2_with fail
                  go_roundw
                  case rel => first | exact ⟨a', m, lim1, decide (rt ≥ th), ap, _, rfl, rfl, rfl, by rw [← hdd], rfl, by omega, by omega, hl1b, by have := HN'.out; show _ ≤ _; omega, HR8.out, HZ5.out.symm, HM8.out⟩ | ((repeat apply Exists.intro); exact ⟨⟨a', m, lim1, decide (rt ≥ th), ap, _, rfl, rfl, rfl, by rw [← hdd], rfl, by omega, by omega, hl1b, by have := HN'.out; show _ ≤ _; omega, HR8.out, HZ5.out.symm, HM8.out⟩, rfl⟩) | fail
                  case measure => simp [intOf]; omega
end Go.Proofs.Ytmgkdlkjcncniaa
