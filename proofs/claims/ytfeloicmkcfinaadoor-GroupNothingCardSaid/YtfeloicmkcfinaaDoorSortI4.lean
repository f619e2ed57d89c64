/- The library's stable sort of symbols by their lengths. -/
import Derived.Test.YtfeloicmkcfinaaDoorSortI3
namespace Go.Proofs.YtfeloicmkcfinaaDoor
open Go.RowKit
open Go.Proofs.YtfeloicmkcfinaaDoorW.PrintWords
open Srt

theorem symMergeI (N : Nat) : SymMergeI N := by
  induction N with
  | zero => intro base b n cap B A nl cl ls p s1 s2 r w i m k hN hi hm hk h1 h2; omega
  | succ N ih =>
    intro base b n cap B A nl cl ls p s1 s2 r w i m k hN hi hm hk h1 h2 hn hB hA hc hg hs1 hs2 H
    by_cases e1 : s1.length = 1
    · obtain ⟨x, rfl⟩ := List.length_eq_one_iff.1 e1
      simp only [List.length_cons, List.length_nil] at hm hk
      exact symMergeA base b n cap B A nl cl ls p s2 r x w i m k hi (by omega) (by omega) hn hB hA hc hg hs2 H
    · by_cases e2 : s2.length = 1
      · obtain ⟨x, rfl⟩ := List.length_eq_one_iff.1 e2
        simp only [List.length_cons, List.length_nil] at hk
        exact symMergeB base b n cap B A nl cl ls p s1 r x w i m k hi hm (by omega) (by omega) hn hB hA hc (fun y hy => hg y (by simp at hy ⊢; exact hy.symm)) hs1 H
      · exact symMergeC N ih base b n cap B A nl cl ls p s1 s2 r w i m k hN hi hm hk (by omega) (by omega) hn hB hA hc hg hs1 hs2 H

set_option maxHeartbeats 2000000 in
theorem stableI (base b n cap B : Nat) (A : Option Addr) (nl cl : Nat) (ls xs : List Int) (w : World) (hn : n ≤ 140737488351232)
    (hB : B ≠ b) (hA : ∀ ad, A = some ad → ad.block ≠ b) (hc : CmpI w B A nl cl ls) (hg : ∀ x ∈ xs, GoodI ls x) (H : RowI w base b n cap xs) :
    Calls Tryd.prog 51 #[.slice (some ⟨b, 0, none⟩) n cap, .int .i64 (n : Nat), cmpI B] w
      fun e w' => e = .returned (.tuple #[]) ∧ (∃ s', Sorted (keyI ls) s' ∧ FEq (keyI ls) xs s' ∧ RowI w' base b n cap s') ∧ Mods [b] w w' := by
  have hlen := H.length
  have HR := Lib.hid H; have HC := Lib.hid hc; have HG := Lib.hid hg; have HA := Lib.hid hA; have HL := Lib.hid hlen
  clear H hc hg hA hlen
  have HCM := Lib.hid (show ∀ wr, Mods [b] w wr → CmpI wr B A nl cl ls from fun wr hm => HC.out.mods hm (by simpa using hB) (fun ad h => by simpa using HA.out ad h))
  go_enter Tryd.func51, Tryd.ntmps51
  go_wp2_with fail
  go_loopw [7, 8] (fun x y wr => ∃ (a : Nat) (Rs : List (List Int)) (T : List Int), x = .int .i64 (a : Nat) ∧ y = .int .i64 ((a : Int) + 20) ∧ a ≤ n ∧ Hid (Rs.flatten.length = a ∧ a + T.length = n ∧ Full (keyI ls) 20 Rs ∧ FEq (keyI ls) xs (Rs.flatten ++ T)) ∧ Hid (RowI wr base b n cap (Rs.flatten ++ T)) ∧ Hid (Mods [b] w wr)) (fun x _ _ => n - (intOf x).toNat)
  case atStart => exact ⟨0, [], xs, rfl, by simp, by omega, ⟨by simp, by have := HL.out; omega, Full.nil _ _, by simpa using FEq.refl _ _⟩, by simpa [Hid] using HR.out, Mods.refl _ _⟩
  case round =>
    obtain ⟨a, Rs, T, rfl, rfl, han, HF, HRW, HM⟩ := hrel
    by_cases hlt : a + 20 ≤ n
    · have hle : (a : Int) + 20 ≤ (n : Int) := by omega
      obtain ⟨t1, T', hT, ht1⟩ : ∃ t1 T', T = t1 ++ T' ∧ t1.length = 20 := ⟨T.take 20, T.drop 20, by simp, by have := HF.out.2.1; simp; omega⟩
      have HT := Lib.hid hT; have HT1 := Lib.hid ht1
      clear hT ht1
      go_wp2_with fail
      refine (insertionI base b n cap B A nl cl ls Rs.flatten t1 T' wr _ _ (by have := HF.out.1; omega) (by have := HF.out.1; have := HT1.out; omega) hn hB HA.out (HCM.out _ HM.out) (fun x hx => HG.out x ((HF.out.2.2.2.mem x).2 (by rw [HT.out]; simp [hx]))) (by have h := HRW.out; rw [HT.out] at h; simpa only [List.append_assoc] using h)).mono ?_
      rintro e w2 ⟨rfl, ⟨s', hs1, hs2, hR⟩, hM⟩
      have HS := Lib.hid (And.intro hs1 hs2); have HR2 := Lib.hid hR; have HM2 := Lib.hid hM
      clear hs1 hs2 hR hM
      go_wp2_with fail
      go_roundw
      case rel =>
        obtain ⟨q1, q2, q3, q4⟩ := HF.out
        have hsl := HS.out.2.length
        have := HT1.out
        refine ⟨a + 20, Rs ++ [s'], T', by go_num, by go_num, by omega, ⟨by rw [List.flatten_append, List.length_append, List.flatten_singleton]; omega, ?_, q3.snoc (by omega) HS.out.1, ?_⟩, by simpa [Hid] using HR2.out, HM.out.trans HM2.out⟩
        · rw [HT.out, List.length_append] at q2; omega
        · refine q4.trans ?_
          rw [HT.out]
          have h := (FEq.refl (keyI ls) Rs.flatten).app (HS.out.2.app (FEq.refl _ T'))
          simpa using h
      case measure => simp [intOf]; omega
    · have hle : ¬ (a : Int) + 20 ≤ (n : Int) := by omega
      go_wp2_with fail
      refine (insertionI base b n cap B A nl cl ls Rs.flatten T [] wr _ _ (by have := HF.out.1; omega) (by have := HF.out.1; have := HF.out.2.1; omega) hn hB HA.out (HCM.out _ HM.out) (fun x hx => HG.out x ((HF.out.2.2.2.mem x).2 (by simp [hx]))) (by simpa using HRW.out)).mono ?_
      rintro e w2 ⟨rfl, ⟨s', hs1, hs2, hR⟩, hM⟩
      have hst : ∃ (Rs : List (List Int)) (t : List Int), t.length < 20 ∧ (Rs.flatten ++ t).length = n ∧ Full (keyI ls) 20 Rs ∧ Sorted (keyI ls) t ∧ FEq (keyI ls) xs (Rs.flatten ++ t) ∧ RowI w2 base b n cap (Rs.flatten ++ t) ∧ Mods [b] w w2 := by
        obtain ⟨q1, q2, q3, q4⟩ := HF.out
        have hsl := hs2.length
        exact ⟨Rs, s', by omega, by simp only [List.length_append]; omega, q3, hs1, q4.trans ((FEq.refl _ _).app hs2), by simpa using hR, HM.out.trans hM⟩
      have HST := Lib.hid hst
      clear hst hs1 hs2 hR hM HF HRW HM
      obtain ⟨wo, hwo⟩ : ∃ wo : World, wo = w2 := ⟨_, rfl⟩
      subst hwo
      go_wp2_with fail
      go_loopw [6, 7, 8, 9] (fun x y z v wr => ∃ (bs : Nat), x = .int .i64 (bs : Nat) ∧ 20 ≤ bs ∧ bs ≤ 2 * n + 20 ∧ Hid (∃ (Rs : List (List Int)) (t : List Int), t.length < bs ∧ (Rs.flatten ++ t).length = n ∧ Full (keyI ls) bs Rs ∧ Sorted (keyI ls) t ∧ FEq (keyI ls) xs (Rs.flatten ++ t) ∧ RowI wr base b n cap (Rs.flatten ++ t) ∧ Mods [b] w wr)) (fun x _ _ _ _ => n - (intOf x).toNat)
      case atStart => exact ⟨20, rfl, by omega, by omega, HST.out⟩
      case round =>
        obtain ⟨bs, rfl, hbs, hbs2, HS⟩ := hrel
        by_cases hbn : bs < n
        · obtain ⟨wo, hwo⟩ : ∃ wo : World, wo = wr := ⟨_, rfl⟩
          subst hwo
          go_wp2_with fail
          go_loopw [7, 8] (fun x y wr => ∃ (a : Nat) (Es Rs : List (List Int)) (t : List Int), x = .int .i64 (a : Nat) ∧ y = .int .i64 ((a : Int) + 2 * bs) ∧ a ≤ n ∧ Hid (Es.flatten.length = a ∧ t.length < bs ∧ a + Rs.length * bs + t.length = n ∧ Full (keyI ls) (2 * bs) Es ∧ Full (keyI ls) bs Rs ∧ Sorted (keyI ls) t ∧ FEq (keyI ls) xs (Es.flatten ++ Rs.flatten ++ t)) ∧ Hid (RowI wr base b n cap (Es.flatten ++ Rs.flatten ++ t)) ∧ Hid (Mods [b] w wr)) (fun x _ _ => n - (intOf x).toNat)
          case atStart =>
            obtain ⟨Rs, t, q1, q2, q3, q4, q5, q6, q7⟩ := HS.out
            exact ⟨0, [], Rs, t, rfl, by simp, by omega, ⟨by simp, q1, by rw [List.length_append, q3.length] at q2; omega, Full.nil _ _, q3, q4, by simpa using q5⟩, by simpa [Hid] using q6, q7⟩
          case round =>
            obtain ⟨a, Es, Rs, t, rfl, rfl, han, HF, HRW, HM⟩ := hrel
            by_cases hlt : a + 2 * bs ≤ n
            · have hle : (a : Int) + 2 * (bs : Int) ≤ (n : Int) := by omega
              obtain ⟨s1, s2, Rs', hRs⟩ : ∃ s1 s2 Rs', Rs = s1 :: s2 :: Rs' := by
                obtain ⟨q1, q2, q3, _⟩ := HF.out
                match Rs, q3 with
                | [], q3 => simp at q3; omega
                | [s], q3 => simp at q3; omega
                | s1 :: s2 :: Rs', _ => exact ⟨s1, s2, Rs', rfl⟩
              subst hRs
              have hs12 : s1.length = bs ∧ s2.length = bs := ⟨(HF.out.2.2.2.2.1 s1 (by simp)).1, (HF.out.2.2.2.2.1 s2 (by simp)).1⟩
              have HS12 := Lib.hid hs12
              clear hs12
              go_wp2_with fail
              have hab : (a : Int) + (bs : Int) = ((a + bs : Nat) : Int) := by omega
              have ha2 : (a : Int) + 2 * (bs : Int) = ((a + 2 * bs : Nat) : Int) := by omega
              rw [hab, ha2]
              refine (symMergeI (s1.length + s2.length) base b n cap B A nl cl ls Es.flatten s1 s2 (Rs'.flatten ++ t) wr _ _ _ (Nat.le_refl _) HF.out.1.symm (by rw [HF.out.1, HS12.out.1]) (by rw [HF.out.1, HS12.out.1, HS12.out.2]; omega) (by have := HS12.out; omega) (by have := HS12.out; omega) hn hB HA.out (HCM.out _ HM.out) (fun x hx => HG.out x ((HF.out.2.2.2.2.2.2.mem x).2 (by simp at hx ⊢; rcases hx with h | h <;> simp [h]))) (HF.out.2.2.2.2.1 s1 (by simp)).2 (HF.out.2.2.2.2.1 s2 (by simp)).2 (by have h := HRW.out; simpa using h)).mono ?_
              rw [← hab, ← ha2]
              clear hab ha2
              rintro e w2 ⟨rfl, ⟨s', hs1, hs2, hR⟩, hM⟩
              have HSS := Lib.hid (And.intro hs1 hs2); have HR2 := Lib.hid hR; have HM2 := Lib.hid hM
              clear hs1 hs2 hR hM
              go_wp2_with fail
              go_roundw
              case rel =>
                obtain ⟨q1, q2, q3, q4, q5, q6, q7⟩ := HF.out
                have hsl := HSS.out.2.length
                have h12 := HS12.out
                rw [List.length_append] at hsl
                refine ⟨a + 2 * bs, Es ++ [s'], Rs', t, by go_num, by go_num, by omega, ⟨by rw [List.flatten_append, List.length_append, List.flatten_singleton]; omega, q2, ?_, q4.snoc (by omega) HSS.out.1, q5.tail.tail, q6, ?_⟩, by simpa [Hid] using HR2.out, HM.out.trans HM2.out⟩
                · simp only [List.length_cons, Nat.succ_mul] at q3; omega
                · refine q7.trans ?_
                  have h := (FEq.refl (keyI ls) Es.flatten).app (HSS.out.2.app (FEq.refl _ (Rs'.flatten ++ t)))
                  simpa using h
              case measure => simp [intOf]; omega
            · have hle : ¬ (a : Int) + 2 * (bs : Int) ≤ (n : Int) := by omega
              have hab : (a : Int) + (bs : Int) = ((a + bs : Nat) : Int) := by omega
              by_cases hm : a + bs < n
              · have hm' : (a : Int) + (bs : Int) < (n : Int) := by omega
                obtain ⟨s1, hRs⟩ : ∃ s1, Rs = [s1] := by
                  obtain ⟨q1, q2, q3, _⟩ := HF.out
                  match Rs, q3 with
                  | [], q3 => simp at q3; omega
                  | [s], q3 => exact ⟨s, rfl⟩
                  | s1 :: s2 :: Rs', q3 => simp only [List.length_cons, Nat.succ_mul] at q3; omega
                subst hRs
                have hs12 : s1.length = bs ∧ 0 < t.length ∧ a + bs + t.length = n := by
                  obtain ⟨q1, q2, q3, _⟩ := HF.out
                  simp at q3
                  exact ⟨(HF.out.2.2.2.2.1 s1 (by simp)).1, by omega, by omega⟩
                have HS12 := Lib.hid hs12
                have HAB := Lib.hid hab
                clear hs12 hab
                go_wp2_with fail
                rw [HAB.out]
                refine (symMergeI (s1.length + t.length) base b n cap B A nl cl ls Es.flatten s1 t [] wr _ _ _ (Nat.le_refl _) HF.out.1.symm (by rw [HF.out.1, HS12.out.1]) (by rw [HF.out.1, HS12.out.1]; have := HS12.out; omega) (by have := HS12.out; omega) (by have := HS12.out; omega) hn hB HA.out (HCM.out _ HM.out) (fun x hx => HG.out x ((HF.out.2.2.2.2.2.2.mem x).2 (by simp at hx ⊢; rcases hx with h | h <;> simp [h]))) (HF.out.2.2.2.2.1 s1 (by simp)).2 HF.out.2.2.2.2.2.1 (by have h := HRW.out; simpa using h)).mono ?_
                rw [← HAB.out]
                rintro e w2 ⟨rfl, ⟨s', hs1, hs2, hR⟩, hM⟩
                have HSS := Lib.hid (And.intro hs1 hs2); have HR2 := Lib.hid hR; have HM2 := Lib.hid hM
                clear hs1 hs2 hR hM
                go_wp2_with fail
                go_roundw
                case rel =>
                  obtain ⟨q1, q2, q3, q4, q5, q6, q7⟩ := HF.out
                  have hsl := HSS.out.2.length
                  have h12 := HS12.out
                  rw [List.length_append] at hsl
                  refine ⟨2 * bs, by go_num, by omega, by omega, Es, s', by omega, by rw [List.length_append]; omega, q4, HSS.out.1, ?_, by simpa using HR2.out, HM.out.trans HM2.out⟩
                  refine q7.trans ?_
                  have h := (FEq.refl (keyI ls) Es.flatten).app HSS.out.2
                  simpa using h
                case measure => simp [intOf]; omega
              · have hm' : ¬ (a : Int) + (bs : Int) < (n : Int) := by omega
                have hfin : ∃ t', t'.length < 2 * bs ∧ (Es.flatten ++ t').length = n ∧ Sorted (keyI ls) t' ∧ Rs.flatten ++ t = t' := by
                  obtain ⟨q1, q2, q3, q4, q5, q6, q7⟩ := HF.out
                  match Rs, q3, q5 with
                  | [], q3, _ => exact ⟨t, by omega, by rw [List.length_append]; simp at q3; omega, q6, by simp⟩
                  | [s], q3, q5 =>
                    have ht : t = [] := List.eq_nil_of_length_eq_zero (by simp at q3; omega)
                    have hs := q5 s (by simp)
                    rw [ht] at q3 ⊢
                    exact ⟨s, by omega, by rw [List.length_append]; simp at q3; omega, hs.2, by simp⟩
                  | s1 :: s2 :: Rs', q3, _ => simp only [List.length_cons, Nat.succ_mul] at q3; omega
                have HFIN := Lib.hid hfin
                clear hfin hab
                go_wp2_with fail
                go_roundw
                case rel =>
                  obtain ⟨q1, q2, q3, q4, q5, q6, q7⟩ := HF.out
                  obtain ⟨t', p1, p2, p3, p4⟩ := HFIN.out
                  rw [List.append_assoc, p4] at q7
                  have hr := HRW.out
                  rw [List.append_assoc, p4] at hr
                  exact ⟨2 * bs, by go_num, by omega, by omega, Es, t', p1, p2, q4, p3, q7, hr, HM.out⟩
                case measure => simp [intOf]; omega
        · have hle : ¬ (bs : Int) < (n : Int) := by omega
          go_wp2_with fail
          go_end0
          obtain ⟨Rs, t, q1, q2, q3, q4, q5, q6, q7⟩ := HS.out
          exact ⟨rfl, ⟨_, Full.done q3 q4 q1 q2 (by omega), q5, q6⟩, q7⟩

set_option maxHeartbeats 400000 in
theorem sortStableI (base b n cap B : Nat) (A : Option Addr) (nl cl : Nat) (ls xs : List Int) (w : World) (hn : n ≤ 140737488351232)
    (hB : B ≠ b) (hA : ∀ ad, A = some ad → ad.block ≠ b) (hc : CmpI w B A nl cl ls) (hg : ∀ x ∈ xs, GoodI ls x) (H : RowI w base b n cap xs) :
    Calls Tryd.prog 39 #[.slice (some ⟨b, 0, none⟩) n cap, cmpI B] w
      fun e w' => e = .returned (.tuple #[]) ∧ (∃ s', Sorted (keyI ls) s' ∧ FEq (keyI ls) xs s' ∧ RowI w' base b n cap s') ∧ Mods [b] w w' := by
  have h := Lib.hid (stableI base b n cap B A nl cl ls xs w hn hB hA hc hg H)
  clear hA hc hg H
  go_enter Tryd.func39, Tryd.ntmps39
  go_wp2_with fail
  refine h.out.mono ?_
  rintro e w2 ⟨rfl, hs, hM⟩
  have HS := Lib.hid hs; have HM := Lib.hid hM
  clear hs hM
  go_wp2_with fail
  go_end0
  exact ⟨rfl, HS.out, HM.out⟩
end Go.Proofs.YtfeloicmkcfinaaDoor
