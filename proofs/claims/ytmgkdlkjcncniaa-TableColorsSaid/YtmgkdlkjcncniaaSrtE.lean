/- The library's reversal, and its heap sort, at 32-bit numbers. -/
import Derived.Test.YtmgkdlkjcncniaaSrtB
import Derived.IntWalk
namespace Go.Proofs.Ytmgkdlkjcncniaa
open Go.RowKit
open Go.Proofs.YtmgkdlkjcncniaaW.PrintWords

theorem rev_go (i j : Nat) (d : Array Int) (h : i < j) : Sort.reverseLoop i j d = Sort.reverseLoop (i + 1) (j - 1) (Sort.swp d i j) := by rw [Sort.reverseLoop, if_pos h]
theorem rev_stop (i j : Nat) (d : Array Int) (h : ¬ i < j) : Sort.reverseLoop i j d = d := by rw [Sort.reverseLoop, if_neg h]

set_option maxHeartbeats 1000000 in
theorem reverseU (base g n cap a b : Nat) (d : Array Int) (w : World) (hn : n ≤ 1152921504606846975) (hab : a < b) (hb : b ≤ n) (H : RowU w base g n cap d) :
    Calls Try.prog 46 #[.slice (some ⟨g, 0, none⟩) n cap, .int .i64 a, .int .i64 b] w
      fun e w' => e = .returned (.tuple #[]) ∧ RowU w' base g n cap (Sort.reverseRange d a b) ∧ Mods [g] w w' := by
  have HR := Lib.hid H
  clear H
  obtain ⟨b', rfl⟩ : ∃ b', b = b' + 1 := ⟨b - 1, by omega⟩
  go_enter Try.func46, Try.ntmps46
  go_wp2
  go_loopw [6, 7] (fun vi vj wr => ∃ (i j : Nat) (e : Array Int), vi = .int .i64 i ∧ vj = .int .i64 j ∧ i ≤ n ∧ j < n ∧ Hid (RowU wr base g n cap e) ∧ Hid (Sort.reverseLoop i j e = Sort.reverseRange d a (b' + 1)) ∧ Hid (Mods [g] w wr)) (fun _ vj _ => (intOf vj).toNat)
  case atStart => exact ⟨a, b', d, rfl, by go_num, by omega, by omega, HR.out, rfl, Mods.refl _ _⟩
  case round =>
    obtain ⟨i, j, e, rfl, rfl, hin, hjn, HRE, HO, HM⟩ := hrel
    by_cases hij : i < j
    · have hij' : (i : Int) < (j : Int) := by omega
      obtain ⟨k, rfl⟩ : ∃ k, j = k + 1 := ⟨j - 1, by omega⟩
      obtain ⟨c1, f1⟩ := HRE.out.at_ i (by omega)
      obtain ⟨c2, f2⟩ := HRE.out.at_ (k + 1) (by omega)
      have hsw := fun m => (HRE.out.drewN m).swp i (k + 1)
      have hgo := rev_go i (k + 1) e hij
      rw [Nat.add_sub_cancel] at hgo
      have HSW := Lib.hid hsw; have HGO := Lib.hid hgo
      clear hsw hgo
      have hi1 : (i : Int) < n := by omega
      have hk1 : (k : Int) + 1 < n := by omega
      generalize e[k + 1]! = x at *
      generalize e[i]! = y at *
      go_wp2
      go_region
      all_goals go_wp2
      go_roundw
      case rel => exact ⟨i + 1, k, _, by go_num, by go_num, by omega, by omega, HSW.out 1, HGO.out.symm.trans HO.out, ((HM.out.drewN 1).setCell (.inl (by simp)) _).setCell (.inl (by simp)) _⟩
      case measure => simp [intOf]
    · have hij' : ¬ (i : Int) < (j : Int) := by omega
      have h := HO.out
      rw [rev_stop _ _ _ hij] at h
      subst h
      go_wp2
      go_end0
      exact ⟨rfl, HRE.out, HM.out⟩

theorem sd_stop (hi first root : Nat) (d : Array Int) (h : hi ≤ 2 * root + 1) : Sort.siftDown Sort.ltInt hi first root d = d := by rw [Sort.siftDown, dif_pos h]
theorem sd_left (hi first root c : Nat) (d : Array Int) (hc : 2 * root + 1 = c) (h : c < hi) (hl : hi ≤ c + 1 ∨ Sort.ltInt d[first + c]! d[first + c + 1]! = false) :
    (Sort.ltInt d[first + root]! d[first + c]! = true → Sort.siftDown Sort.ltInt hi first root d = Sort.siftDown Sort.ltInt hi first c (Sort.swp d (first + root) (first + c))) ∧
    (Sort.ltInt d[first + root]! d[first + c]! = false → Sort.siftDown Sort.ltInt hi first root d = d) := by
  subst hc
  have e : ¬ (2 * root + 1 + 1 < hi && Sort.ltInt d[first + (2 * root + 1)]! d[first + (2 * root + 1) + 1]!) = true := by
    rcases hl with hl | hl
    · simp; intro h'; omega
    · simp [hl]
  constructor
  · intro hx
    rw [Sort.siftDown, dif_neg (by omega), if_neg e, if_neg (by simp [hx])]
  · intro hx
    rw [Sort.siftDown, dif_neg (by omega), if_neg e, if_pos (by simp [hx])]
theorem sd_right (hi first root c : Nat) (d : Array Int) (hc : 2 * root + 1 = c) (h : c + 1 < hi) (hl : Sort.ltInt d[first + c]! d[first + c + 1]! = true) :
    (Sort.ltInt d[first + root]! d[first + (c + 1)]! = true → Sort.siftDown Sort.ltInt hi first root d = Sort.siftDown Sort.ltInt hi first (c + 1) (Sort.swp d (first + root) (first + (c + 1)))) ∧
    (Sort.ltInt d[first + root]! d[first + (c + 1)]! = false → Sort.siftDown Sort.ltInt hi first root d = d) := by
  subst hc
  have e : (2 * root + 1 + 1 < hi && Sort.ltInt d[first + (2 * root + 1)]! d[first + (2 * root + 1) + 1]!) = true := by simp [hl]; omega
  constructor
  · intro hx
    rw [Sort.siftDown, dif_neg (by omega), if_pos e, if_neg (by rw [show first + (2 * root + 1 + 1) = first + (2 * root + 2) by omega] at hx; simp [hx]), dif_pos (by omega)]
  · intro hx
    rw [Sort.siftDown, dif_neg (by omega), if_pos e, if_pos (by rw [show first + (2 * root + 1 + 1) = first + (2 * root + 2) by omega] at hx; simp [hx])]

set_option maxHeartbeats 2000000 in
theorem siftDownU (base g n cap lo hi first : Nat) (d : Array Int) (w : World) (hn : n ≤ 1152921504606846975) (hb : first + hi ≤ n) (hlo : lo ≤ n) (H : RowU w base g n cap d) :
    Calls Try.prog 56 #[.slice (some ⟨g, 0, none⟩) n cap, .int .i64 lo, .int .i64 hi, .int .i64 first] w
      fun e w' => e = .returned (.tuple #[]) ∧ RowU w' base g n cap (Sort.siftDown Sort.ltInt hi first lo d) ∧ Mods [g] w w' := by
  have HR := Lib.hid H
  clear H
  go_enter Try.func56, Try.ntmps56
  go_wp2
  go_loopw [8, 9] (fun vr _ wr => ∃ (r : Nat) (e : Array Int), vr = .int .i64 r ∧ r ≤ n ∧ Hid (RowU wr base g n cap e) ∧ Hid (Sort.siftDown Sort.ltInt hi first r e = Sort.siftDown Sort.ltInt hi first lo d) ∧ Hid (Mods [g] w wr)) (fun vr _ _ => n - (intOf vr).toNat)
  case atStart => exact ⟨lo, d, rfl, hlo, HR.out, rfl, Mods.refl _ _⟩
  case round =>
    obtain ⟨r, e, rfl, hrn, HRE, HO, HM⟩ := hrel
    obtain ⟨c, hc⟩ : ∃ c, 2 * r + 1 = c := ⟨_, rfl⟩
    have hc' : 2 * (r : Int) + 1 = (c : Int) := by omega
    by_cases hch : c < hi
    · have hd1 : decide ((hi : Int) ≤ (c : Int)) = false := by simp; omega
      obtain ⟨p, hp⟩ : ∃ p, first + c = p := ⟨_, rfl⟩
      obtain ⟨t, ht⟩ : ∃ t, first + r = t := ⟨_, rfl⟩
      have hp' : (first : Int) + (c : Int) = p := by omega
      have ht' : (first : Int) + (r : Int) = t := by omega
      have hpn : (p : Int) < n := by omega
      have htn : (t : Int) < n := by omega
      have hwt : IntKind.i64.wrap (t : Int) = t := IntWalk.i64_in _ (by omega)
      have hwp : IntKind.i64.wrap (p : Int) = p := IntWalk.i64_in _ (by omega)
      have hwq : IntKind.i64.wrap ((p : Int) + 1) = (p : Int) + 1 := IntWalk.i64_in _ (by omega)
      obtain ⟨c1, f1⟩ := HRE.out.at_ p (by omega)
      obtain ⟨c3, f3⟩ := HRE.out.at_ t (by omega)
      by_cases hch2 : c + 1 < hi
      · have hd2 : decide ((c : Int) + 1 < (hi : Int)) = true := by simp; omega
        have hpn1 : (p : Int) + 1 < n := by omega
        obtain ⟨c2, f2⟩ := HRE.out.at_ (p + 1) (by omega)
        have hq' : (first : Int) + ((c : Int) + 1) = (p : Int) + 1 := by omega
        by_cases hl : Sort.ltInt e[p]! e[p + 1]! = true
        · have step := sd_right hi first r c e hc hch2 (by rw [hp]; exact hl)
          rw [show first + (c + 1) = p + 1 by omega, ht] at step
          have hsw := fun m => (HRE.out.drewN m).swp t (p + 1)
          have HSW := Lib.hid hsw; have STEP := Lib.hid step
          clear hsw step hc hp ht
          generalize e[p]! = x at *
          generalize e[p + 1]! = y at *
          generalize e[t]! = z at *
          go_wp2
          go_quiet (first | (go_at_call 48; refine Calls.quiet_of_same (less_any _ _ _)))
          go_wp2
          go_quiet (first | (go_at_call 48; first | refine Calls.quiet_of_same (less_any _ _ _) | refine quiet_two (less_any _ _ _)))
          generalize hl2 : Sort.ltInt z y = lb at *
          cases lb with
          | true =>
            go_wp2
            go_region
            all_goals go_wp2
            go_roundw
            case rel => exact ⟨c + 1, _, by go_num, by omega, HSW.out _, (STEP.out.1 (by first | rfl | trivial)).symm.trans HO.out, ((HM.out.drewN _).setCell (.inl (by simp)) _).setCell (.inl (by simp)) _⟩
            case measure => simp [intOf]; omega
          | false =>
            have h := HO.out
            rw [STEP.out.2 (by first | rfl | trivial)] at h
            have HE := Lib.hid h
            clear h
            go_wp2
            refine bodyPost_ret (results_none rfl _ _ _) rfl ?_
            exact ⟨rfl, by rw [← HE.out]; exact HRE.out.drewN _, HM.out.drewN _⟩
        · have hl : Sort.ltInt e[p]! e[p + 1]! = false := by simpa using hl
          have step := sd_left hi first r c e hc hch (.inr (by rw [hp]; exact hl))
          rw [hp, ht] at step
          have hsw := fun m => (HRE.out.drewN m).swp t p
          have HSW := Lib.hid hsw; have STEP := Lib.hid step
          clear hsw step hc hp ht
          generalize e[p]! = x at *
          generalize e[p + 1]! = y at *
          generalize e[t]! = z at *
          go_wp2
          go_quiet (first | (go_at_call 48; refine Calls.quiet_of_same (less_any _ _ _)))
          go_wp2
          go_quiet (first | (go_at_call 48; first | refine Calls.quiet_of_same (less_any _ _ _) | refine quiet_two (less_any _ _ _)))
          generalize hl2 : Sort.ltInt z x = lb at *
          cases lb with
          | true =>
            go_wp2
            go_region
            all_goals go_wp2
            go_roundw
            case rel => exact ⟨c, _, by go_num, by omega, HSW.out _, (STEP.out.1 (by first | rfl | trivial)).symm.trans HO.out, ((HM.out.drewN _).setCell (.inl (by simp)) _).setCell (.inl (by simp)) _⟩
            case measure => simp [intOf]; omega
          | false =>
            have h := HO.out
            rw [STEP.out.2 (by first | rfl | trivial)] at h
            have HE := Lib.hid h
            clear h
            go_wp2
            refine bodyPost_ret (results_none rfl _ _ _) rfl ?_
            exact ⟨rfl, by rw [← HE.out]; exact HRE.out.drewN _, HM.out.drewN _⟩
      · have hd2 : decide ((c : Int) + 1 < (hi : Int)) = false := by simp; omega
        · have step := sd_left hi first r c e hc hch (.inl (by omega))
          rw [hp, ht] at step
          have hsw := fun m => (HRE.out.drewN m).swp t p
          have HSW := Lib.hid hsw; have STEP := Lib.hid step
          clear hsw step hc hp ht
          generalize e[p]! = x at *
          generalize e[t]! = z at *
          go_wp2
          go_quiet (first | (go_at_call 48; refine Calls.quiet_of_same (less_any _ _ _)))
          go_wp2
          go_quiet (first | (go_at_call 48; first | refine Calls.quiet_of_same (less_any _ _ _) | refine quiet_two (less_any _ _ _)))
          generalize hl2 : Sort.ltInt z x = lb at *
          cases lb with
          | true =>
            go_wp2
            go_region
            all_goals go_wp2
            go_roundw
            case rel => exact ⟨c, _, by go_num, by omega, HSW.out _, (STEP.out.1 (by first | rfl | trivial)).symm.trans HO.out, ((HM.out.drewN _).setCell (.inl (by simp)) _).setCell (.inl (by simp)) _⟩
            case measure => simp [intOf]; omega
          | false =>
            have h := HO.out
            rw [STEP.out.2 (by first | rfl | trivial)] at h
            have HE := Lib.hid h
            clear h
            go_wp2
            refine bodyPost_ret (results_none rfl _ _ _) rfl ?_
            exact ⟨rfl, by rw [← HE.out]; exact HRE.out.drewN _, HM.out.drewN _⟩
    · have hd1 : decide ((hi : Int) ≤ (c : Int)) = true := by simp; omega
      have h := HO.out
      rw [sd_stop _ _ _ _ (by omega)] at h
      subst h
      clear hc
      go_wp2
      go_end0
      exact ⟨rfl, HRE.out, HM.out⟩
end Go.Proofs.Ytmgkdlkjcncniaa
