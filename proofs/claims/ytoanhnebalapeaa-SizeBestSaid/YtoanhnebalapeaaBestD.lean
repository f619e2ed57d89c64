/- What size.Best does where the counts are refused, and at no or one symbol. -/
import Derived.Test.YtoanhnebalapeaaBestC
namespace Go.Proofs.Ytoanhnebalapeaa
open Go.RowKit
open Go.Proofs.YtoanhnebalapeaaW.PrintWords
open Srt Sz

set_option maxHeartbeats 1000000 in
theorem best_bad (A : Option Addr) (n c : Nat) (cs : List Int) (most : Int) (w : World) (HR : ReadsInt w .i64 A n cs) (hok : okS cs most = false) :
    Calls Try.prog 33 #[.slice A n c, .int .i64 most] w fun e w' => e = .returned (.tuple #[.slice none 0 0, .int .i64 1]) ∧ w = w' := by
  have HRR := Lib.hid HR; have HOK := Lib.hid hok
  clear HR hok
  go_enter Try.func33, Try.ntmps33
  go_wp2_with fail
  refine (check_size A n c cs most w HRR.out).mono ?_
  rintro e w' ⟨rfl, rfl⟩
  rw [HOK.out]
  go_wp2_with fail
  go_ret2
  exact ⟨rfl, rfl⟩

set_option maxRecDepth 100000 in
set_option maxHeartbeats 2000000 in
theorem best_few (A : Option Addr) (n c : Nat) (cs : List Int) (most : Int) (w : World) (HR : ReadsInt w .i64 A n cs) (hok : okS cs most = true) (h2 : many cs < 2) :
    Calls Try.prog 33 #[.slice A n c, .int .i64 most] w fun e w' => ∃ v, e = .returned (.tuple #[v, .int .i64 0]) ∧ w'.ownsRow w.heap.size 3 1 v n (nums .i64 (lensS n (comeUp cs cs.length))) ∧ Below w.heap.size w w' := by
  have hn : n ≤ 4096 := by
    unfold okS at hok
    simp at hok
    have := HR.1
    omega
  have HRR := Lib.hid HR; have HL := Lib.hid HR.1; have HOK := Lib.hid hok
  have hmk := print_make (P := Try.prog) 28 3 .i64 8 Try.underlying28 info_int (by decide) n (by omega)
  clear HR hok
  go_enter Try.func33, Try.ntmps33
  go_wp2_with fail
  refine (check_size A n c cs most w HRR.out).mono ?_
  rintro e w' ⟨rfl, rfl⟩
  rw [HOK.out]
  go_wp2_with fail
  have hO1 := own_made w w.heap.size 3 .i64 n (by simp) (by omega)
  have hB1 : Below w.heap.size w (w.alloc (.cells (madeCells #[.int .i64 0] n) 3)) := (Below.refl _ w).alloc (Nat.le_refl _) _
  have hz1 : (w.alloc (.cells (madeCells #[.int .i64 0] n) 3)).heap.size = w.heap.size + 1 := by simp
  generalize hw1 : w.alloc (.cells (madeCells #[.int .i64 0] n) 3) = w1 at *
  have e0 : lensS n [] = List.replicate n 0 := by simp [lensS, List.map_const']
  rw [← e0] at hO1
  have HO1 := Lib.hid hO1; have HB1 := Lib.hid hB1; have HZ1 := Lib.hid hz1
  have HR1 := Lib.hid (HRR.out.below hB1)
  clear hw1 hO1 hB1 hz1 hmk e0
  refine (single_any A n c cs w1 HR1.out hn).mono ?_
  rintro e w2 ⟨hB2, ⟨hc0, rfl⟩ | ⟨gc, cc, psc, qc, rfl, hOc, hMc, hUc, hFc⟩⟩
  · have HB2 := Lib.hid (below_then HB1.out HB1.out.size hB2)
    have HO2 := Lib.hid (show w2.ownsRow w.heap.size 3 1 (.slice (some ⟨w.heap.size, 0, none⟩) n n) n (nums .i64 (lensS n (comeUp cs cs.length))) from by rw [hc0]; exact pw_own_below HO1.out hB2)
    clear hB2 hc0
    go_wp2_with fail
    go_loopw [32] (fun i wr => i = .int .i64 0 ∧ wr = w2) (fun _ _ => 0)
    case atStart => exact ⟨rfl, rfl⟩
    case round =>
      obtain ⟨rfl, rfl⟩ := hrel
      go_wp2_with fail
      go_ret2
      exact ⟨_, rfl, HO2.out, HB2.out⟩
  · have hN1 : many cs = (comeUp cs cs.length).length := (comeUp_len cs _).symm
    have hlq : qc.length = (comeUp cs cs.length).length := by rw [← hFc.length, List.length_map]
    have hql : ∃ x, comeUp cs cs.length = [x] ∨ comeUp cs cs.length = [] := by
      cases h : comeUp cs cs.length with
      | nil => exact ⟨0, .inr rfl⟩
      | cons x t =>
        cases t with
        | nil => exact ⟨x, .inl rfl⟩
        | cons y t => rw [h] at hN1; simp at hN1; omega
    have HB2 := Lib.hid (below_then HB1.out HB1.out.size hB2)
    have HO2 := Lib.hid (pw_own_below HO1.out hB2)
    obtain ⟨x, hx | hx⟩ := hql
    · have hxn : x < n := by
        have : x ∈ comeUp cs cs.length := by rw [hx]; simp
        unfold comeUp at this
        rw [List.mem_filter, List.mem_range] at this
        have := HL.out
        omega
      rw [hx] at hN1 hFc hlq
      have hq1 : qc = [coin (ln cs) x] := by
        have hm := (hFc.mem (coin (ln cs) x)).1 (by simp)
        cases qc with
        | nil => simp at hm
        | cons a t => cases t with
          | nil => simp at hm; rw [hm]
          | cons b t => simp at hlq
      subst hq1
      have hps : psc.length = 1 := hMc.1
      obtain ⟨p, rfl⟩ : ∃ p, psc = [p] := by
        cases psc with
        | nil => simp at hps
        | cons a t => cases t with
          | nil => exact ⟨a, rfl⟩
          | cons b t => simp at hps
      obtain ⟨hsm, hpn, ad, _, ha, hlo, _, hxc⟩ := hMc.2 0 p _ rfl rfl
      clear hsm
      have hcx := hxc 0 x rfl
      have hcx0 : w2.cell? ad = some (.int .i64 (x : Int)) := by simpa [Addr.add] using hcx
      obtain ⟨c1, c2, _, _⟩ := hOc.at 0 p rfl
      obtain ⟨p1, pA, pn, pc⟩ := p
      dsimp only at ha hpn c1 c2
      subst ha
      have hpn' : pn = 1 := hpn
      clear hpn
      subst hpn'
      have d1 : w2.cell? ⟨gc, 0, none⟩ = some (.int .i64 p1) := by simpa using c1
      have d2 : w2.cell? ⟨gc, 1, none⟩ = some (.slice (some ad) 1 pc) := by simpa using c2
      clear c1 c2
      have hN2 : many cs = 1 := hN1
      rw [hN2]
      have hbx : Below w2.heap.size w2 (w2.alloc (.cells #[.int .i64 p1, .slice (some ad) 1 pc] 96)) := (Below.refl _ w2).alloc (Nat.le_refl _) _
      have HOb := Lib.hid (World.ownsRow.alloc HO2.out (.cells #[.int .i64 p1, .slice (some ad) 1 pc] 96))
      have HFIN := Lib.hid (show ((w2.alloc (.cells #[.int .i64 p1, .slice (some ad) 1 pc] 96)).setCell ⟨w.heap.size, x, none⟩ (.int .i64 1)).ownsRow w.heap.size 3 1 (.slice (some ⟨w.heap.size, 0, none⟩) n n) n (nums .i64 (lensS n (comeUp cs cs.length))) from by
        have h := (World.ownsRow.stored HOb.out x (.int .i64 1)).1
        have e : lensS n (comeUp cs cs.length) = (lensS n []).set x (ln (lensS n []) x + 1) := by rw [lensS_snoc _ _ _ hxn, hx]; rfl
        rw [lensS_ln n _ x hxn] at e
        rw [e, show nums .i64 ((lensS n []).set x (((List.count x ([] : List Nat) : Nat) : Int) + 1)) = (nums .i64 (lensS n [])).set x (.int .i64 1) from by simp [nums, List.map_set]]
        exact h)
      have hfz : (w2.alloc (.cells #[.int .i64 p1, .slice (some ad) 1 pc] 96)).frozen? ⟨w.heap.size, x, none⟩ = false := by
        rcases HOb.out.2 with ⟨h, _⟩ | ⟨g, cap, cur, h1, _, hh, _⟩
        · cases h
        · cases h1; exact free_blk hh _
      obtain ⟨ad2, ha2, hc2⟩ := (own_reads' HOb.out).2.2 (by omega)
      cases ha2
      have hcl := hc2 x hxn
      rw [add_plain] at hcl
      have hcx1 := pw_cell_below hbx hcx0
      have hcx2 := pw_cell_below hbx hcx
      have hxi : (x : Int) < (n : Int) := by omega
      have HBX := Lib.hid (show Below w.heap.size w ((w2.alloc (.cells #[.int .i64 p1, .slice (some ad) 1 pc] 96)).setCell ⟨w.heap.size, x, none⟩ (.int .i64 1)) from (HB2.out.alloc HB2.out.size _).setCell (p := ⟨w.heap.size, x, none⟩) (Nat.le_refl _) _)
      clear hbx hc2 hcx hcx0 hMc hUc hFc hOc hB2 hlq hps hN2 hN1 hxc
      go_wp2_with fail
      go_loopw [32] (fun i wr => ∃ j : Nat, j ≤ 1 ∧ i = .int .i64 j ∧ Hid (j = 0 → wr = w2) ∧ Hid (j = 1 → wr.ownsRow w.heap.size 3 1 (.slice (some ⟨w.heap.size, 0, none⟩) n n) n (nums .i64 (lensS n (comeUp cs cs.length))) ∧ Below w.heap.size w wr)) (fun i _ => 1 - (intOf i).toNat)
      case atStart => exact ⟨0, by omega, rfl, fun _ => rfl, fun h => by omega⟩
      case round =>
        obtain ⟨j, hj, rfl, H0, H1⟩ := hrel
        by_cases hj0 : j = 0
        · subst hj0
          have hww := H0.out rfl
          clear H0 H1
          subst hww
          go_wp2_with fail
          go_roundw
          case rel => exact ⟨1, by omega, by go_num, fun h => by omega, fun _ => ⟨HFIN.out, HBX.out⟩⟩
          case measure => simp [intOf]
        · obtain rfl : j = 1 := by omega
          have HE := Lib.hid (H1.out rfl)
          clear H0 H1
          go_wp2_with fail
          go_ret2
          exact ⟨_, rfl, HE.out.1, HE.out.2⟩
    · have hN2 : many cs = 0 := by rw [hN1, hx]; rfl
      rw [hN2]
      clear hMc hUc hFc hOc hB2 hlq hN1
      go_wp2_with fail
      go_loopw [32] (fun i wr => i = .int .i64 0 ∧ wr = w2) (fun _ _ => 0)
      case atStart => exact ⟨rfl, rfl⟩
      case round =>
        obtain ⟨rfl, rfl⟩ := hrel
        go_wp2_with fail
        go_ret2
        exact ⟨_, rfl, by rw [hx]; exact HO2.out, HB2.out⟩
end Go.Proofs.Ytoanhnebalapeaa
