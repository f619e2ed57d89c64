/- What size.Best does where the counts are refused, and at no or one symbol. -/
import Derived.Test.YtbljoihnjhllhaaLensFlat15
import Derived.Test.YtbljoihnjhllhaaLensFlat16
import Derived.Test.YtbljoihnjhllhaaLensFlat2
import Derived.Test.YtbljoihnjhllhaaWWords
namespace Go.Proofs.Ytbljoihnjhllhaa
open Go.RowKit
open Go.Proofs.YtbljoihnjhllhaaW.PrintWords
open Srt Sz

set_option maxHeartbeats 1000000 in
theorem best_bad (A : Option Addr) (n c : Nat) (cs : List Int) (most : Int) (w : World) (HR : ReadsInt w .i64 A n cs) (hok : okS cs most = false) :
    Calls Try.prog 35 #[.slice A n c, .int .i64 most] w fun e w' => e = .returned (.tuple #[.slice none 0 0, .int .i64 1]) ∧ w = w' := by
  have HRR := Lib.hid HR; have HOK := Lib.hid hok
  clear HR hok
  go_enter Try.func35, Try.ntmps35
  go_wp2_with fail
  refine (check_size A n c cs most w HRR.out).mono ?_
  rintro e w' ⟨rfl, rfl⟩
  rw [HOK.out]
  go_wp2_with fail
  go_ret2
  exact ⟨rfl, rfl⟩

set_option maxRecDepth 100000 in
set_option maxHeartbeats 2000000 in
theorem best_few (A : Option Addr) (n c : Nat) (cs : List Int) (most : Int) (w : World) (HR : ReadsInt w .i64 A n cs) (hok : okS cs most = true) (h2 : many cs < 2) :
    Calls Try.prog 35 #[.slice A n c, .int .i64 most] w fun e w' => ∃ v, e = .returned (.tuple #[v, .int .i64 0]) ∧ w'.ownsRow w.heap.size 3 1 v n (nums .i64 (lensS n (comeUp cs cs.length))) ∧ Below w.heap.size w w' := by
  have hn : n ≤ 4096 := by
    unfold okS at hok
    simp at hok
    have := HR.1
    omega
  have HRR := Lib.hid HR; have HL := Lib.hid HR.1; have HOK := Lib.hid hok
  have hmk := print_make (P := Try.prog) 22 3 .i64 8 Try.underlying22 info_int (by decide) n (by omega)
  clear HR hok
  go_enter Try.func35, Try.ntmps35
  go_wp2_with fail
  refine (check_size A n c cs most w HRR.out).mono ?_
  rintro e w' ⟨rfl, rfl⟩
  rw [HOK.out]
  go_wp2_with fail
  have hO1 := own_made w w.heap.size 3 .i64 n (by simp) (by omega)
  have hB1 : Below w.heap.size w (w.alloc (.cells (madeCells #[.int .i64 0] n) 3)) := (Below.refl _ w).alloc (Nat.le_refl _) _
  have hz1 : (w.alloc (.cells (madeCells #[.int .i64 0] n) 3)).heap.size = w.heap.size + 1 := by simp
  generalize hw1 : w.alloc (.cells (madeCells #[.int .i64 0] n) 3) = w1 at *
  have e0 : lensS n [] = List.replicate n 0 := by simp [lensS, List.map_const']
  rw [← e0] at hO1
  have HO1 := Lib.hid hO1; have HB1 := Lib.hid hB1; have HZ1 := Lib.hid hz1
  have HR1 := Lib.hid (HRR.out.below hB1)
  clear hw1 hO1 hB1 hz1 hmk e0
  refine (single_any A n c cs w1 HR1.out hn).mono ?_
  rintro e w2 ⟨hB2, ⟨hc0, rfl⟩ | ⟨gc, cc, psc, qc, rfl, hOc, hMc, hUc, hFc⟩⟩
  · have HB2 := Lib.hid (below_then HB1.out HB1.out.size hB2)
    have HO2 := Lib.hid (show w2.ownsRow w.heap.size 3 1 (.slice (some ⟨w.heap.size, 0, none⟩) n n) n (nums .i64 (lensS n (comeUp cs cs.length))) from by rw [hc0]; exact pw_own_below HO1.out hB2)
    clear hB2 hc0
    go_wp2_with fail
    go_loopw [32] (fun i wr => i = .int .i64 0 ∧ wr = w2) (fun _ _ => 0)
    case atStart => exact ⟨rfl, rfl⟩
    case round =>
      obtain ⟨rfl, rfl⟩ := hrel
      go_wp2_with fail
      go_ret2
      exact ⟨_, rfl, HO2.out, HB2.out⟩
  · have hN1 : many cs = (comeUp cs cs.length).length := (comeUp_len cs _).symm
    have hlq : qc.length = (comeUp cs cs.length).length := by rw [← hFc.length, List.length_map]
    have hql : ∃ x, comeUp cs cs.length = [x] ∨ comeUp cs cs.length = [] := by
      cases h : comeUp cs cs.length with
      | nil => exact ⟨0, .inr rfl⟩
      | cons x t =>
        cases t with
        | nil => exact ⟨x, .inl rfl⟩
        | cons y t => rw [h] at hN1; simp at hN1; omega
    have HB2 := Lib.hid (below_then HB1.out HB1.out.size hB2)
    have HO2 := Lib.hid (pw_own_below HO1.out hB2)
    obtain ⟨x, hx | hx⟩ := hql
    · have hxn : x < n := by
        have : x ∈ comeUp cs cs.length := by rw [hx]; simp
        unfold comeUp at this
        rw [List.mem_filter, List.mem_range] at this
        have := HL.out
        omega
      rw [hx] at hN1 hFc hlq
      have hq1 : qc = [coin (ln cs) x] := by
        have hm := (hFc.mem (coin (ln cs) x)).1 (by simp)
        cases qc with
        | nil => simp at hm
        | cons a t => cases t with
          | nil => simp at hm; rw [hm]
          | cons b t => simp at hlq
      subst hq1
      have hps : psc.length = 1 := hMc.1
      obtain ⟨p, rfl⟩ : ∃ p, psc = [p] := by
        cases psc with
        | nil => simp at hps
        | cons a t => cases t with
          | nil => exact ⟨a, rfl⟩
          | cons b t => simp at hps
      obtain ⟨hsm, hpn, ad, _, ha, hlo, _, hxc⟩ := hMc.2 0 p _ rfl rfl
      clear hsm
      have hcx := hxc 0 x rfl
      have hcx0 : w2.cell? ad = some (.int .i64 (x : Int)) := by simpa [Addr.add] using hcx
      obtain ⟨c1, c2, _, _⟩ := hOc.at 0 p rfl
      obtain ⟨p1, pA, pn, pc⟩ := p
      dsimp only at ha hpn c1 c2
      subst ha
      have hpn' : pn = 1 := hpn
      clear hpn
      subst hpn'
      have d1 : w2.cell? ⟨gc, 0, none⟩ = some (.int .i64 p1) := by simpa using c1
      have d2 : w2.cell? ⟨gc, 1, none⟩ = some (.slice (some ad) 1 pc) := by simpa using c2
      clear c1 c2
      have hN2 : many cs = 1 := hN1
      rw [hN2]
      have hbx : Below w2.heap.size w2 (w2.alloc (.cells #[.int .i64 p1, .slice (some ad) 1 pc] 93)) := (Below.refl _ w2).alloc (Nat.le_refl _) _
      have HOb := Lib.hid (World.ownsRow.alloc HO2.out (.cells #[.int .i64 p1, .slice (some ad) 1 pc] 93))
      have HFIN := Lib.hid (show ((w2.alloc (.cells #[.int .i64 p1, .slice (some ad) 1 pc] 93)).setCell ⟨w.heap.size, x, none⟩ (.int .i64 1)).ownsRow w.heap.size 3 1 (.slice (some ⟨w.heap.size, 0, none⟩) n n) n (nums .i64 (lensS n (comeUp cs cs.length))) from by
        have h := (World.ownsRow.stored HOb.out x (.int .i64 1)).1
        have e : lensS n (comeUp cs cs.length) = (lensS n []).set x (ln (lensS n []) x + 1) := by rw [lensS_snoc _ _ _ hxn, hx]; rfl
        rw [lensS_ln n _ x hxn] at e
        rw [e, show nums .i64 ((lensS n []).set x (((List.count x ([] : List Nat) : Nat) : Int) + 1)) = (nums .i64 (lensS n [])).set x (.int .i64 1) from by simp [nums, List.map_set]]
        exact h)
      have hfz : (w2.alloc (.cells #[.int .i64 p1, .slice (some ad) 1 pc] 93)).frozen? ⟨w.heap.size, x, none⟩ = false := by
        rcases HOb.out.2 with ⟨h, _⟩ | ⟨g, cap, cur, h1, _, hh, _⟩
        · cases h
        · cases h1; exact free_blk hh _
      obtain ⟨ad2, ha2, hc2⟩ := (own_reads' HOb.out).2.2 (by omega)
      cases ha2
      have hcl := hc2 x hxn
      rw [add_plain] at hcl
      have hcx1 := pw_cell_below hbx hcx0
      have hcx2 := pw_cell_below hbx hcx
      have hxi : (x : Int) < (n : Int) := by omega
      have HBX := Lib.hid (show Below w.heap.size w ((w2.alloc (.cells #[.int .i64 p1, .slice (some ad) 1 pc] 93)).setCell ⟨w.heap.size, x, none⟩ (.int .i64 1)) from (HB2.out.alloc HB2.out.size _).setCell (p := ⟨w.heap.size, x, none⟩) (Nat.le_refl _) _)
      clear hbx hc2 hcx hcx0 hMc hUc hFc hOc hB2 hlq hps hN2 hN1 hxc
      go_wp2_with fail
      go_loopw [32] (fun i wr => ∃ j : Nat, j ≤ 1 ∧ i = .int .i64 j ∧ Hid (j = 0 → wr = w2) ∧ Hid (j = 1 → wr.ownsRow w.heap.size 3 1 (.slice (some ⟨w.heap.size, 0, none⟩) n n) n (nums .i64 (lensS n (comeUp cs cs.length))) ∧ Below w.heap.size w wr)) (fun i _ => 1 - (intOf i).toNat)
      case atStart => exact ⟨0, by omega, rfl, fun _ => rfl, fun h => by omega⟩
      case round =>
        obtain ⟨j, hj, rfl, H0, H1⟩ := hrel
        by_cases hj0 : j = 0
        · subst hj0
          have hww := H0.out rfl
          clear H0 H1
          subst hww
          go_wp2_with fail
          go_roundw
          case rel => exact ⟨1, by omega, by go_num, fun h => by omega, fun _ => ⟨HFIN.out, HBX.out⟩⟩
          case measure => simp [intOf]
        · obtain rfl : j = 1 := by omega
          have HE := Lib.hid (H1.out rfl)
          clear H0 H1
          go_wp2_with fail
          go_ret2
          exact ⟨_, rfl, HE.out.1, HE.out.2⟩
    · have hN2 : many cs = 0 := by rw [hN1, hx]; rfl
      rw [hN2]
      clear hMc hUc hFc hOc hB2 hlq hN1
      go_wp2_with fail
      go_loopw [32] (fun i wr => i = .int .i64 0 ∧ wr = w2) (fun _ _ => 0)
      case atStart => exact ⟨rfl, rfl⟩
      case round =>
        obtain ⟨rfl, rfl⟩ := hrel
        go_wp2_with fail
        go_ret2
        exact ⟨_, rfl, by rw [hx]; exact HO2.out, HB2.out⟩
end Go.Proofs.Ytbljoihnjhllhaa

/- What size.Best does, in one contract; and that its lengths are the plain theory's. -/
namespace Go.Proofs.Ytbljoihnjhllhaa
open Go.RowKit
open Go.Proofs.YtbljoihnjhllhaaW.PrintWords
open Srt Sz

theorem FEq.permB {α : Type} {key : α → Int} {a b : List α} (h : FEq key a b) : a.Perm b := by
  classical
  rw [List.perm_iff_count]
  intro x
  have e : ∀ l : List α, l.count x = (l.filter (fun y => key y == key x)).count x := fun l => by rw [List.count_filter (by simp)]
  rw [e a, e b, h]

/-- The coins, in order. -/
def IsCoins (cs : List Int) (css : List Nat) : Prop := FEq Pk.sum ((comeUp cs cs.length).map (coin (ln cs))) (css.map (coin (ln cs)))
theorem coins_of {cs : List Int} {most : Int} {qc : List Pk} (hok : okS cs most = true) (h2 : 2 ≤ many cs) (hu : Up qc) (hf : FEq Pk.sum ((comeUp cs cs.length).map (coin (ln cs))) qc) :
    ∃ css, qc = css.map (coin (ln cs)) ∧ IsCoins cs css ∧ css.Perm (comeUp cs cs.length) ∧ Coins (ln cs) cs.length css (most.toNat - 1) := by
  have hq : qc = (qc.map (fun q => q.syms.headD 0)).map (coin (ln cs)) := by
    rw [List.map_map]
    conv => lhs; rw [← List.map_id qc]
    apply List.map_congr_left
    intro q hq
    obtain ⟨s, _, rfl⟩ := List.mem_map.1 ((hf.mem q).2 hq)
    rfl
  have hp : (qc.map (fun q => q.syms.headD 0)).Perm (comeUp cs cs.length) := by
    have h := (FEq.permB hf).symm.map (fun q : Pk => q.syms.headD 0)
    rw [List.map_map] at h
    have e : ((fun q : Pk => q.syms.headD 0) ∘ coin (ln cs)) = id := by funext s; rfl
    rw [e, List.map_id] at h
    exact h
  have hmem : ∀ s ∈ qc.map (fun q => q.syms.headD 0), s < cs.length ∧ 0 < ln cs s := fun s hs => by
    have h := hp.mem_iff.1 hs
    unfold comeUp at h
    rw [List.mem_filter, List.mem_range] at h
    exact ⟨h.1, by simpa using h.2⟩
  have hlen : (qc.map (fun q => q.syms.headD 0)).length = many cs := by rw [hp.length_eq, comeUp_len]; rfl
  refine ⟨_, hq, ?_, hp, ?_, fun s hs => (hmem s hs).1, fun s hs => by have := (hmem s hs).2; omega, ?_, by omega, ?_⟩
  · unfold IsCoins; rw [← hq]; exact hf
  · refine hp.nodup_iff.2 ?_
    unfold comeUp
    exact List.nodup_range.filter _
  · have h := hu
    rw [hq] at h
    have key : ∀ L : List Nat, Up (L.map (coin (ln cs))) → Sorted (ln cs) L := fun L h => by
      have h' : List.Pairwise (fun a b => (coin (ln cs) a).sum ≤ (coin (ln cs) b).sum) L := (List.pairwise_map (R := fun x y : Pk => x.sum ≤ y.sum)).1 h
      exact h'
    exact key _ h
  · rw [hlen]
    unfold okS at hok
    simp at hok
    have h1 := hok.2
    have h3 : most.toNat - 1 + 1 = most.toNat := by omega
    rw [h3]
    exact_mod_cast h1

/-- What Best answers where the counts serve. -/
def BestIs (cs : List Int) (most : Int) (out : List Int) : Prop :=
  (many cs < 2 ∧ out = lensS cs.length (comeUp cs cs.length)) ∨ (2 ≤ many cs ∧ ∃ css, IsCoins cs css ∧ css.Perm (comeUp cs cs.length) ∧ Coins (ln cs) cs.length css (most.toNat - 1) ∧ out = bestS (ln cs) cs.length css (most.toNat - 1))

theorem best_any (A : Option Addr) (n c : Nat) (cs : List Int) (most : Int) (w : World) (HR : ReadsInt w .i64 A n cs) :
    Calls Try.prog 35 #[.slice A n c, .int .i64 most] w fun e w' => Below w.heap.size w w' ∧
      ((okS cs most = false ∧ e = .returned (.tuple #[.slice none 0 0, .int .i64 1])) ∨
       (okS cs most = true ∧ ∃ v out, e = .returned (.tuple #[v, .int .i64 0]) ∧ w'.ownsRow w.heap.size 3 1 v n (nums .i64 out) ∧ BestIs cs most out)) := by
  have hl : cs.length = n := HR.1
  cases hok : okS cs most with
  | false =>
    refine (best_bad A n c cs most w HR hok).mono ?_
    rintro e w' ⟨rfl, rfl⟩
    exact ⟨Below.refl _ _, .inl ⟨rfl, rfl⟩⟩
  | true =>
    by_cases h2 : many cs < 2
    · refine (best_few A n c cs most w HR hok h2).mono ?_
      rintro e w' ⟨v, rfl, ho, hb⟩
      exact ⟨hb, .inr ⟨rfl, v, _, rfl, ho, .inl ⟨h2, by rw [hl]⟩⟩⟩
    · refine (best_many A n c cs most w HR hok (by omega)).mono ?_
      rintro e w' ⟨v, qc, rfl, hu, hf, ho, hb⟩
      obtain ⟨css, h1, h3, h4, h5⟩ := coins_of hok (by omega) hu hf
      have hlen : css.length = many cs := by rw [h4.length_eq, comeUp_len]; rfl
      refine ⟨hb, .inr ⟨rfl, v, _, rfl, ho, .inr ⟨by omega, css, h3, h4, h5, ?_⟩⟩⟩
      unfold bestS sel
      rw [h1, hlen, hl]
end Go.Proofs.Ytbljoihnjhllhaa

/- What the lengths of size.Best are good for, first part: complete, not too long, and just one answer. No program in sight. -/
namespace Go.Proofs.Ytbljoihnjhllhaa
open Go.RowKit
open Srt Sz

theorem mem_comeUp {cs : List Int} {k s : Nat} : s ∈ comeUp cs k ↔ s < k ∧ 0 < ln cs s := by
  unfold comeUp; rw [List.mem_filter, List.mem_range]; simp
theorem comeUp_nodup (cs : List Int) (k : Nat) : (comeUp cs k).Nodup := by
  unfold comeUp; exact List.nodup_range.filter _
theorem BestIs.length {cs : List Int} {most : Int} {out : List Int} (h : BestIs cs most out) : out.length = cs.length := by
  rcases h with ⟨_, rfl⟩ | ⟨_, css, _, _, _, rfl⟩
  · exact lensS_length _ _
  · exact lensS_length _ _
theorem ln_rep' (k : Nat) (v : Int) (t : Nat) (h : t < k) : ln (List.replicate k v) t = v := by
  unfold ln; rw [List.getElem?_replicate, if_pos h]; rfl
theorem ln_beyond {ls : List Int} {t : Nat} (h : ls.length ≤ t) : ln ls t = 0 := by
  unfold ln; rw [List.getElem?_eq_none h]; rfl
theorem come_all {cs : List Int} (h : ∀ s, s < cs.length → 0 < ln cs s) : (comeUp cs cs.length).length = cs.length := by
  unfold comeUp
  rw [List.filter_eq_self.2 (fun s hs => by simpa using h s (List.mem_range.1 hs)), List.length_range]

theorem okS_room {cs : List Int} {most : Int} (h : okS cs most = true) : 1 ≤ most ∧ most ≤ 15 ∧ cs.length ≤ 4096 ∧ (∀ s, 0 ≤ ln cs s ∧ ln cs s ≤ 4294967296) := by
  unfold okS at h
  simp at h
  obtain ⟨⟨⟨h1, h2, h3⟩, h4⟩, _⟩ := h
  refine ⟨h1, h2, h3, fun s => ?_⟩
  by_cases hs : s < cs.length
  · have := h4 (ln cs s) (ln_mem hs)
    unfold badCnt at this
    simp at this
    omega
  · rw [ln_beyond (by omega)]; omega

/-- Some for each that comes, none for the others; not too long. -/
theorem best_lens {cs : List Int} {most : Int} {out : List Int} (hok : okS cs most = true) (h : BestIs cs most out) (s : Nat) :
    0 ≤ ln out s ∧ ln out s ≤ most ∧ (0 < ln out s ↔ 0 < ln cs s) ∧ (many cs < 2 → ln out s ≤ 1) := by
  obtain ⟨h1, h2, h3, hc⟩ := okS_room hok
  by_cases hs : s < cs.length
  · rcases h with ⟨hm, rfl⟩ | ⟨hm, css, _, hp, hC, rfl⟩
    · rw [lensS_ln _ _ _ hs]
      by_cases hp : 0 < ln cs s
      · rw [(comeUp_nodup cs cs.length).count, if_pos (mem_comeUp.2 ⟨hs, hp⟩)]; omega
      · rw [(comeUp_nodup cs cs.length).count, if_neg (fun h => hp (mem_comeUp.1 h).2)]; omega
    · by_cases hq : 0 < ln cs s
      · have := best_bounds hC s (hp.mem_iff.2 (mem_comeUp.2 ⟨hs, hq⟩))
        omega
      · have := best_none hC s hs (fun h => hq (mem_comeUp.1 (hp.mem_iff.1 h)).2)
        omega
  · rw [ln_beyond (ls := out) (by rw [h.length]; omega), ln_beyond (ls := cs) (by omega)]; omega

theorem coins_same {cs : List Int} {k j : Nat} {a b : List Nat} (ha : IsCoins cs a) (hb : IsCoins cs b) (hA : Coins (ln cs) cs.length a k) (hB : Coins (ln cs) cs.length b j) : a.map (coin (ln cs)) = b.map (coin (ln cs)) :=
  sorted_unique hA.up hB.up (FEq.trans (FEq.symm ha) hb)
theorem many_same {cs out : List Int} (hl : out.length = cs.length) (h : ∀ s, 0 < ln out s ↔ 0 < ln cs s) : many out = many cs := by
  unfold many mnUp; rw [hl]
  refine List.countP_congr fun s _ => ?_
  simpa using h s
theorem best_check {cs : List Int} {most : Int} {out : List Int} (hok : okS cs most = true) (h : BestIs cs most out) (h1 : 1 ≤ many cs) : checkS out = 0 := by
  obtain ⟨hm1, hm2, h3, hc⟩ := okS_room hok
  have hb : out.any badLen = false := by
    rw [List.any_eq_false]
    intro x hx
    obtain ⟨t, ht, rfl⟩ := List.mem_iff_getElem.1 hx
    have := best_lens hok h t
    rw [ln_get ht] at this
    unfold badLen; simp; omega
  unfold checkS
  rw [hb]
  have hmm := many_same h.length (fun s => (best_lens hok h s).2.2.1)
  rcases h with ⟨hm, _⟩ | ⟨hm, css, _, hp, hC, rfl⟩
  · rw [if_neg (by simp), if_pos (.inl (by omega))]
  · rw [if_neg (by simp), if_pos (.inr (best_kraft hC (by omega)))]
/-- Just one answer. -/
theorem BestIs.same {cs : List Int} {most : Int} {a b : List Int} (ha : BestIs cs most a) (hb : BestIs cs most b) : a = b := by
  rcases ha with ⟨h1, rfl⟩ | ⟨h1, css, hI, hp, hC, rfl⟩ <;> rcases hb with ⟨k1, rfl⟩ | ⟨k1, dss, kI, kp, kC, rfl⟩
  · rfl
  · omega
  · omega
  · have e := coins_same hI kI hC kC
    have hl : css.length = dss.length := by rw [hp.length_eq, kp.length_eq]
    unfold bestS sel
    rw [e, hl]
open Classical in
/-- The lengths that size.Best answers. -/
noncomputable def bestF (cs : List Int) (most : Int) : List Int := if h : ∃ out, BestIs cs most out then h.choose else []
theorem BestIs.is {cs : List Int} {most : Int} {out : List Int} (h : BestIs cs most out) : out = bestF cs most := by
  have hx : ∃ out, BestIs cs most out := ⟨out, h⟩
  unfold bestF
  rw [dif_pos hx]
  exact h.same hx.choose_spec
theorem sort_ex : ∀ l : List Pk, ∃ q, Up q ∧ FEq Pk.sum l q
  | [] => ⟨[], List.Pairwise.nil, FEq.refl _ _⟩
  | a :: t => by
    obtain ⟨q, hu, hf⟩ := sort_ex t
    exact ⟨mrg [a] q, mrg_up _ _ (List.pairwise_singleton _ _) hu, FEq.trans (FEq.app (FEq.refl Pk.sum [a]) hf) (mrg_feq [a] q (List.pairwise_singleton _ _) hu)⟩
theorem best_ex {cs : List Int} {most : Int} (hok : okS cs most = true) : ∃ out, BestIs cs most out := by
  by_cases h2 : many cs < 2
  · exact ⟨_, .inl ⟨h2, rfl⟩⟩
  · obtain ⟨q, hu, hf⟩ := sort_ex ((comeUp cs cs.length).map (coin (ln cs)))
    obtain ⟨css, h1, h3, h4, h5⟩ := coins_of hok (by omega) hu hf
    exact ⟨_, .inr ⟨by omega, css, h3, h4, h5, rfl⟩⟩
theorem bestF_is {cs : List Int} {most : Int} (hok : okS cs most = true) : BestIs cs most (bestF cs most) := by
  obtain ⟨out, h⟩ := best_ex hok
  rw [← h.is]; exact h
end Go.Proofs.Ytbljoihnjhllhaa

/- Plain theory of codes, third part: the codes of the symbols in order, one after the other. No program in sight. -/
namespace Go.Proofs.Ytbljoihnjhllhaa
open Go.RowKit
open Go.Proofs.YtbljoihnjhllhaaW.PrintWords
open Srt

def outAt (ls done : List Int) : List Int := (List.range ls.length).map fun t => if ((t : Nat) : Int) ∈ done then codeS ls t else 0
theorem outAt_length (ls done : List Int) : (outAt ls done).length = ls.length := by simp [outAt]
theorem outAt_get (ls done : List Int) (s : Nat) (h : s < ls.length) : (outAt ls done)[s]? = some (if ((s : Nat) : Int) ∈ done then codeS ls s else 0) := by
  simp [outAt, List.getElem?_map, List.getElem?_range h]
theorem outAt_nil (ls : List Int) : outAt ls [] = List.replicate ls.length 0 := by
  apply List.ext_getElem
  · simp [outAt]
  · intro i h1 h2; simp [outAt]
theorem outAt_set (ls done : List Int) (s : Nat) (hs : s < ls.length) : (outAt ls done).set s (codeS ls s) = outAt ls (done ++ [(s : Int)]) := by
  apply List.ext_getElem?
  intro t
  by_cases ht : t < ls.length
  · rw [outAt_get _ _ _ ht, List.getElem?_set, outAt_get _ _ _ ht, outAt_length]
    by_cases e : s = t
    · subst e; rw [if_pos rfl, if_pos hs, if_pos (by simp)]
    · rw [if_neg e]
      have : ((t : Nat) : Int) ∈ done ++ [(s : Int)] ↔ ((t : Nat) : Int) ∈ done := by simp; omega
      simp only [this]
  · rw [List.getElem?_eq_none (by simp [outAt]; omega), List.getElem?_eq_none (by simp [outAt]; omega)]
theorem posUp_of {ls : List Int} {k t : Nat} (h : t < k) (hp : 0 < ln ls t) : ((t : Nat) : Int) ∈ posUp ls k := by
  unfold posUp
  rw [List.mem_map]
  exact ⟨t, by rw [List.mem_filter, List.mem_range]; exact ⟨h, by simpa using hp⟩, rfl⟩
theorem outAt_done {ls os : List Int} (h : InOrder ls os) : outAt ls os = codesS ls := by
  apply List.map_congr_left
  intro s hs
  rw [List.mem_range] at hs
  by_cases hp : 0 < ln ls s
  · rw [if_pos hp, if_pos ((h.2.mem _).1 (posUp_of hs hp))]
  · rw [if_neg hp, if_neg (fun hm => hp (by have := (h.mem hm).2.2; rwa [Int.toNat_natCast] at this))]

def sy (os : List Int) (k : Nat) : Nat := (rd os (k : Int)).toNat
def nx (ls os : List Int) : Nat → Int | 0 => 0 | k + 1 => codeS ls (sy os k)
def la (ls os : List Int) : Nat → Int | 0 => 0 | k + 1 => ln ls (sy os k)
theorem rd_get {os : List Int} {k : Nat} (h : k < os.length) : rd os (k : Int) = os[k] := by unfold rd; rw [Int.toNat_natCast, List.getD_eq_getElem?_getD, List.getElem?_eq_getElem h]; rfl
theorem sy_cast {ls os : List Int} (h : InOrder ls os) {k : Nat} (hk : k < os.length) : rd os (k : Int) = (sy os k : Int) ∧ sy os k < ls.length ∧ 0 < ln ls (sy os k) := by
  have hm := h.mem (x := rd os (k : Int)) (by rw [rd_get hk]; exact List.getElem_mem _)
  unfold sy
  exact ⟨by omega, by omega, hm.2.2⟩
theorem cut_at {os : List Int} {k : Nat} (hk : k < os.length) : os = os.take k ++ rd os (k : Int) :: os.drop (k + 1) := by
  rw [rd_get hk, List.getElem_cons_drop]; simp
theorem code_le {ls : List Int} (hc : checkS ls = 0) (s : Nat) : 0 ≤ codeS ls s ∧ codeS ls s ≤ 32768 := by
  have h1 := (complete hc).1 s
  have e : ((ln ls s).toNat : Int) = ln ls s := by omega
  have h2 := upTo_lt hc (ln ls s).toNat s (by omega)
  have h3 := upTo_nonneg ls (ln ls s) s
  rw [e, upTo_code] at h2
  rw [upTo_code] at h3
  exact ⟨h3, h2⟩
theorem nx_le {ls : List Int} (hc : checkS ls = 0) (os : List Int) (k : Nat) : 0 ≤ nx ls os k ∧ nx ls os k ≤ 32768 := by
  cases k with
  | zero => simp [nx]
  | succ k => exact code_le hc _
theorem la_le {ls : List Int} (hc : checkS ls = 0) (os : List Int) (k : Nat) : 0 ≤ la ls os k ∧ la ls os k ≤ 15 := by
  cases k with
  | zero => simp [la]
  | succ k => exact (complete hc).1 _
theorem nx_first {ls os : List Int} (h : InOrder ls os) (hk : 0 < os.length) : nx ls os 1 = 0 := by
  show codeS ls (sy os 0) = 0
  have e := cut_at hk
  have h2 := h
  rw [e] at h2
  have := codeS_pre (pre := []) h2
  exact this
theorem nx_next {ls os : List Int} (h : InOrder ls os) {k : Nat} (hk : k < os.length) (h0 : 0 < k) : la ls os k ≤ la ls os (k + 1) ∧ nx ls os (k + 1) = (nx ls os k + 1) * 2 ^ (la ls os (k + 1) - la ls os k).toNat := by
  obtain ⟨m, rfl⟩ : ∃ m, k = m + 1 := ⟨k - 1, by omega⟩
  show ln ls (sy os m) ≤ ln ls (sy os (m + 1)) ∧ codeS ls (sy os (m + 1)) = (codeS ls (sy os m) + 1) * 2 ^ (ln ls (sy os (m + 1)) - ln ls (sy os m)).toNat
  have e1 := cut_at hk
  have e0 := cut_at (show m < os.length by omega)
  have ht : os.take (m + 1) = os.take m ++ [rd os (m : Int)] := by
    rw [List.take_add_one, List.getElem?_eq_getElem (by omega), rd_get (by omega)]; rfl
  have h1 := h; rw [e1, ht] at h1
  have h2 := h; rw [e0] at h2
  have c1 := codeS_pre h1
  have c2 := codeS_pre h2
  have hs := h1.1
  unfold Sorted at hs
  rw [List.pairwise_append, List.pairwise_append] at hs
  have p1 : keyL ls (rd os (m : Int)) ≤ keyL ls (rd os ((m + 1 : Nat) : Int)) := hs.2.2 _ (by simp) _ (by simp)
  have p2 : ∀ t ∈ os.take m, keyL ls t ≤ keyL ls (rd os (m : Int)) := fun t ht => hs.1.2.2 t ht _ (by simp)
  refine ⟨p1, ?_⟩
  have := csum_next ls (os.take m) (rd os (m : Int)) (rd os ((m + 1 : Nat) : Int)) p2 p1
  rw [← c1, ← c2] at this
  exact this
end Go.Proofs.Ytbljoihnjhllhaa

/- Plain theory of codes, fourth part: no code is the beginning of another one; the first and the last code; a code that is split. No program in sight. -/
namespace Go.Proofs.Ytbljoihnjhllhaa
open Go.RowKit
open Go.Proofs.YtbljoihnjhllhaaW.PrintWords
open Srt

theorem sumTo_nought (n : Nat) : sumTo n (fun _ => 0) = 0 := by
  induction n with
  | zero => rfl
  | succ n ih => rw [sumTo_succ, ih]; rfl
theorem ahead_iff (ls : List Int) (t s : Nat) : ahead ls t s = true ↔ 0 < ln ls t ∧ (ln ls t < ln ls s ∨ ln ls t = ln ls s ∧ t < s) := by simp [ahead]
theorem two_pow_pos (n : Nat) : (0 : Int) < 2 ^ n := Int.pow_pos (by decide)
theorem code_lt {ls : List Int} (hc : checkS ls = 0) {s : Nat} (hs : s < ls.length) (hp : 0 < ln ls s) : 0 ≤ codeS ls s ∧ codeS ls s + 1 ≤ 2 ^ (ln ls s).toNat := by
  have h1 := (complete hc).1 s
  have e : ((ln ls s).toNat : Int) = ln ls s := by omega
  have h2 := upTo_small hc (ln ls s).toNat (s + 1) (by omega)
  have h3 := upTo_nonneg ls (ln ls s) s
  rw [e, upTo_hit ls (ln ls s) s hs hp rfl, upTo_code] at h2
  rw [upTo_code] at h3
  refine ⟨h3, ?_⟩
  have h4 : (32768 : Int) = 2 ^ (ln ls s).toNat * 2 ^ (15 - (ln ls s).toNat) := by
    rw [← Int.pow_add, show (ln ls s).toNat + (15 - (ln ls s).toNat) = 15 from by omega]; rfl
  rw [h4] at h2
  exact Int.le_of_mul_le_mul_right h2 (two_pow_pos _)
/-- What comes later lies behind all that begins so. -/
theorem code_apart {ls : List Int} {i k : Nat} (hi : i < ls.length) (h : ahead ls i k = true) : (codeS ls i + 1) * 2 ^ (ln ls k - ln ls i).toNat ≤ codeS ls k := by
  rw [ahead_iff] at h
  obtain ⟨h1, h2⟩ := h
  have h3 := sumTo_one (n := ls.length) (f := fun t => (if ahead ls t i then 2 ^ (ln ls i - ln ls t).toNat else 0) * 2 ^ (ln ls k - ln ls i).toNat)
    (g := fun t => if t = i then 2 ^ (ln ls k - ln ls i).toNat else (if ahead ls t i then 2 ^ (ln ls i - ln ls t).toNat else 0) * 2 ^ (ln ls k - ln ls i).toNat) i hi
    (fun t _ hne => by simp [hne])
  have h4 : ahead ls i i = false := by
    cases h : ahead ls i i with
    | false => rfl
    | true => rw [ahead_iff] at h; omega
  have h5 : codeS ls i * 2 ^ (ln ls k - ln ls i).toNat = sumTo ls.length (fun t => (if ahead ls t i then 2 ^ (ln ls i - ln ls t).toNat else 0) * 2 ^ (ln ls k - ln ls i).toNat) := by unfold codeS; rw [sumTo_mul]
  simp only [if_true, h4] at h3
  rw [← h5] at h3
  rw [Int.add_mul, Int.one_mul]
  have h6 : sumTo ls.length (fun t => if t = i then 2 ^ (ln ls k - ln ls i).toNat else (if ahead ls t i then 2 ^ (ln ls i - ln ls t).toNat else 0) * 2 ^ (ln ls k - ln ls i).toNat) ≤ codeS ls k := by
    unfold codeS
    refine sumTo_le fun t ht => ?_
    by_cases e : t = i
    · subst e
      rw [if_pos rfl, if_pos (by rw [ahead_iff]; exact ⟨h1, h2⟩)]
      exact Int.le_refl _
    · rw [if_neg e]
      by_cases ha : ahead ls t i = true
      · rw [if_pos ha]
        rw [ahead_iff] at ha
        rw [if_pos (by rw [ahead_iff]; omega), ← Int.pow_add, show (ln ls i - ln ls t).toNat + (ln ls k - ln ls i).toNat = (ln ls k - ln ls t).toNat from by omega]
        exact Int.le_refl _
      · rw [if_neg ha, Int.zero_mul]
        split
        · exact Int.le_of_lt (two_pow_pos _)
        · exact Int.le_refl _
  simp at h3
  omega
theorem code_shr {ls : List Int} {i k : Nat} (hi : i < ls.length) (hk : k < ls.length) (hne : k ≠ i) (hp : 0 < ln ls i) (hle : ln ls i ≤ ln ls k) : codeS ls k / 2 ^ (ln ls k - ln ls i).toNat ≠ codeS ls i := by
  by_cases h : ahead ls i k = true
  · have h1 := code_apart hi h
    have h2 := (Int.le_ediv_iff_mul_le (two_pow_pos (ln ls k - ln ls i).toNat)).2 h1
    omega
  · have h0 : ahead ls k i = true := by
      rw [ahead_iff]
      rw [ahead_iff] at h
      omega
    have h1 := code_apart hk h0
    have h2 : ln ls k = ln ls i := by rw [ahead_iff] at h0; omega
    rw [h2, Int.sub_self] at h1 ⊢
    simp at h1 ⊢
    omega
theorem code_top {ls : List Int} (hc : checkS ls = 0) {s : Nat} (hs : s < ls.length) (hp : 0 < ln ls s) : codeS ls s / 2 ^ (ln ls s).toNat = 0 := by
  obtain ⟨h0, h1⟩ := code_lt hc hs hp
  exact Int.ediv_eq_zero_of_lt h0 (by omega)

/-! ### The only one -/
theorem nonzero_many {ls : List Int} (h : ∀ t, 0 ≤ ln ls t) : (nonzero ls).length = many ls := by
  unfold nonzero many mnUp
  rw [List.countP_eq_length_filter]
  congr 1
  apply List.filter_congr
  intro t _
  have := h t
  by_cases e : ln ls t = 0
  · simp [e]
  · have : 0 < ln ls t := by omega
    simp [e, this]
theorem one_many {ls : List Int} (h : ∀ t, 0 ≤ ln ls t) : (oneS ls).2 = true ↔ many ls = 1 := by
  rw [← nonzero_many h]
  unfold oneS
  by_cases e : (nonzero ls).length = 1
  · rw [oneOf_one _ e]; simp [e]
  · rw [oneOf_not _ e]; simp [e]

/-! ### How many are so -/
def cnt (p : Nat → Bool) (k : Nat) : Nat := (List.range k).countP p
theorem cnt_hit (p : Nat → Bool) (k : Nat) (h : p k = true) : cnt p (k + 1) = cnt p k + 1 := by simp [cnt, List.range_succ, List.countP_append, h]
theorem cnt_miss (p : Nat → Bool) (k : Nat) (h : p k = false) : cnt p (k + 1) = cnt p k := by simp [cnt, List.range_succ, List.countP_append, h]
theorem cnt_le (p : Nat → Bool) (k : Nat) : cnt p k ≤ k := by have := List.countP_le_length (p := p) (l := List.range k); simpa [cnt] using this
theorem cnt_none (p : Nat → Bool) (k : Nat) (h : ∀ t, t < k → p t = false) : cnt p k = 0 := by
  induction k with
  | zero => rfl
  | succ k ih => rw [cnt_miss p k (h k (by omega)), ih (fun t ht => h t (by omega))]
theorem cnt_one (p : Nat → Bool) (k : Nat) (a : Nat) (ha : a < k) (h1 : p a = true) (h : ∀ t, t < k → p t = true → t = a) : cnt p k = 1 := by
  induction k with
  | zero => omega
  | succ k ih =>
    by_cases e : a = k
    · subst e
      rw [cnt_hit p a h1, cnt_none p a (fun t ht => by
        cases hp : p t with
        | false => rfl
        | true => have := h t (by omega) hp; omega)]
    · rw [cnt_miss p k (by
        cases hp : p k with
        | false => rfl
        | true => have := h k (by omega) hp; omega)]
      exact ih (by omega) (fun t ht => h t (by omega))
theorem exists_max (f : Nat → Nat) : ∀ (l : List Nat), l ≠ [] → ∃ x, x ∈ l ∧ ∀ y ∈ l, f y ≤ f x := by
  intro l
  induction l with
  | nil => intro h; exact absurd rfl h
  | cons a l ih =>
    intro _
    by_cases h : l = []
    · subst h; exact ⟨a, by simp, by simp⟩
    · obtain ⟨x, hx, hm⟩ := ih h
      by_cases hc : f a ≤ f x
      · exact ⟨x, by simp [hx], fun y hy => by rcases List.mem_cons.1 hy with rfl | h; exact hc; exact hm y h⟩
      · exact ⟨a, by simp, fun y hy => by rcases List.mem_cons.1 hy with rfl | h; exact Nat.le_refl _; have := hm y h; omega⟩
def rank (ls : List Int) (s : Nat) : Nat := (ln ls s).toNat * (ls.length + 1) + s
theorem rank_lt {ls : List Int} {s t : Nat} (hs : s < ls.length) (_ : t < ls.length) (h1 : 0 < ln ls t) (h : rank ls t < rank ls s) : ahead ls t s = true := by
  rw [ahead_iff]
  unfold rank at h
  refine ⟨h1, ?_⟩
  by_cases e : ln ls t < ln ls s
  · exact .inl e
  · by_cases e2 : ln ls t = ln ls s
    · right; rw [e2] at h; exact ⟨e2, by omega⟩
    · exfalso
      have h3 : (ln ls s).toNat + 1 ≤ (ln ls t).toNat := by omega
      have h4 := Nat.mul_le_mul_right (ls.length + 1) h3
      rw [Nat.add_mul] at h4
      omega
theorem rank_eq {ls : List Int} {s t : Nat} (hs : s < ls.length) (ht : t < ls.length) (h : rank ls t = rank ls s) : t = s := by
  unfold rank at h
  rcases Nat.lt_trichotomy (ln ls t).toNat (ln ls s).toNat with e | e | e
  · have h4 := Nat.mul_le_mul_right (ls.length + 1) (show (ln ls t).toNat + 1 ≤ (ln ls s).toNat from e)
    rw [Nat.add_mul] at h4; omega
  · rw [e] at h; omega
  · have h4 := Nat.mul_le_mul_right (ls.length + 1) (show (ln ls s).toNat + 1 ≤ (ln ls t).toNat from e)
    rw [Nat.add_mul] at h4; omega
def isLow (ls : List Int) (t : Nat) : Bool := decide (0 < ln ls t) && decide (codeS ls t = 0)
def isHigh (ls : List Int) (t : Nat) : Bool := decide (0 < ln ls t) && decide (codeS ls t = 2 ^ (ln ls t).toNat - 1)
theorem some_pos {ls : List Int} (hc : checkS ls = 0) : (List.range ls.length).filter (fun t => decide (0 < ln ls t)) ≠ [] := by
  intro h
  have h1 : many ls = 0 := by
    unfold many mnUp
    rw [List.countP_eq_length_filter, h]; rfl
  have h2 := krUp_many ls ls.length
  have h3 : mnUp ls ls.length = 0 := h1
  rcases (complete hc).2.1 with h4 | h4
  · omega
  · have h5 : kraft ls = krUp ls ls.length := rfl
    omega
theorem low_one {ls : List Int} (hc : checkS ls = 0) : cnt (isLow ls) ls.length = 1 := by
  obtain ⟨M, hM⟩ : ∃ M, ∀ t, t < ls.length → rank ls t ≤ M := by
    refine ⟨15 * (ls.length + 1) + ls.length, fun t ht => ?_⟩
    have := (complete hc).1 t
    have h4 := Nat.mul_le_mul_right (ls.length + 1) (show (ln ls t).toNat ≤ 15 by omega)
    unfold rank
    omega
  obtain ⟨a, ha, hm⟩ := exists_max (fun t => M - rank ls t) _ (some_pos hc)
  rw [List.mem_filter, List.mem_range] at ha
  simp at ha
  refine cnt_one _ _ a ha.1 ?_ ?_
  · unfold isLow
    simp only [Bool.and_eq_true, decide_eq_true_eq]
    refine ⟨ha.2, ?_⟩
    unfold codeS
    refine Eq.trans ?_ (sumTo_nought ls.length)
    refine sumTo_congr fun t ht => ?_
    rw [if_neg]
    intro h
    rw [ahead_iff] at h
    have h1 := hm t (by rw [List.mem_filter, List.mem_range]; exact ⟨ht, by simpa using h.1⟩)
    have h2 := hM t ht
    have h3 := hM a ha.1
    have h4 : rank ls t < rank ls a := by
      rcases Nat.lt_trichotomy (rank ls t) (rank ls a) with e | e | e
      · exact e
      · have := rank_eq ha.1 ht e; subst this; omega
      · have := rank_lt (s := t) (t := a) ht ha.1 ha.2 e
        rw [ahead_iff] at this; omega
    simp at h1
    omega
  · intro t ht hp
    unfold isLow at hp
    simp only [Bool.and_eq_true, decide_eq_true_eq] at hp
    rcases Nat.lt_trichotomy (rank ls t) (rank ls a) with e | e | e
    · have h1 := hm t (by rw [List.mem_filter, List.mem_range]; exact ⟨ht, by simpa using hp.1⟩)
      have h2 := hM t ht
      have h3 := hM a ha.1
      simp at h1
      omega
    · exact rank_eq ha.1 ht e
    · have h1 := code_apart ha.1 (rank_lt ht ha.1 ha.2 e)
      have h2 := (code_lt hc ha.1 ha.2).1
      have h3 := two_pow_pos (ln ls t - ln ls a).toNat
      have h4 := Int.mul_pos (show (0 : Int) < codeS ls a + 1 by omega) h3
      omega
theorem high_one {ls : List Int} (hc : checkS ls = 0) (hk : kraft ls = 32768) : cnt (isHigh ls) ls.length = 1 := by
  obtain ⟨a, ha, hm⟩ := exists_max (fun t => rank ls t) _ (some_pos hc)
  rw [List.mem_filter, List.mem_range] at ha
  simp at ha
  have hb := (complete hc).1
  refine cnt_one _ _ a ha.1 ?_ ?_
  · unfold isHigh
    simp only [Bool.and_eq_true, decide_eq_true_eq]
    refine ⟨ha.2, ?_⟩
    have e : ((ln ls a).toNat : Int) = ln ls a := by omega
    have h1 : upTo ls (ln ls a) (a + 1) * 2 ^ (15 - (ln ls a).toNat) = kraft ls := by
      unfold upTo kraft
      rw [sumTo_mul]
      refine sumTo_congr fun t ht => ?_
      unfold wgt
      by_cases hp : 0 < ln ls t
      · have h2 : rank ls t ≤ rank ls a := hm t (by rw [List.mem_filter, List.mem_range]; exact ⟨ht, by simpa using hp⟩)
        have h3 : ln ls t < ln ls a ∨ ln ls t = ln ls a ∧ t < a + 1 := by
          rcases Nat.lt_or_eq_of_le h2 with e | e
          · have := rank_lt ha.1 ht hp e
            rw [ahead_iff] at this; omega
          · have := rank_eq ha.1 ht e; subst this; right; exact ⟨rfl, by omega⟩
        have := hb a
        rw [if_pos ⟨hp, h3⟩, if_pos hp, ← Int.pow_add, show (ln ls a - ln ls t).toNat + (15 - (ln ls a).toNat) = 15 - (ln ls t).toNat from by omega]
      · rw [if_neg (fun h => hp h.1), if_neg hp, Int.zero_mul]
    rw [upTo_hit ls (ln ls a) a ha.1 ha.2 rfl, upTo_code, hk] at h1
    have h4 : (32768 : Int) = 2 ^ (ln ls a).toNat * 2 ^ (15 - (ln ls a).toNat) := by
      have := hb a
      rw [← Int.pow_add, show (ln ls a).toNat + (15 - (ln ls a).toNat) = 15 from by omega]; rfl
    rw [h4] at h1
    have h5 := Int.eq_of_mul_eq_mul_right (Int.ne_of_gt (two_pow_pos _)) h1
    omega
  · intro t ht hp
    unfold isHigh at hp
    simp only [Bool.and_eq_true, decide_eq_true_eq] at hp
    have h0 : rank ls t ≤ rank ls a := hm t (by rw [List.mem_filter, List.mem_range]; exact ⟨ht, by simpa using hp.1⟩)
    rcases Nat.lt_or_eq_of_le h0 with e | e
    · have h6 := rank_lt ha.1 ht hp.1 e
      have h1 := code_apart ht h6
      have h2 := (code_lt hc ha.1 ha.2).2
      rw [hp.2, Int.sub_add_cancel, ← Int.pow_add] at h1
      rw [ahead_iff] at h6
      rw [show (ln ls t).toNat + (ln ls a - ln ls t).toNat = (ln ls a).toNat from by omega] at h1
      omega
    · exact rank_eq ha.1 ht e
end Go.Proofs.Ytbljoihnjhllhaa
