/- What size.Best does. (Printed by wip/tools/genbest.py.) -/
import Derived.Test.YtbljoihnjhllhaaLensFlat15
import Derived.Deep.RegionHeld3
namespace Go.Proofs.Ytbljoihnjhllhaa
open Go.RowKit
open Go.Proofs.YtbljoihnjhllhaaW.PrintWords
open Srt Sz

attribute [local go_sem] Oper.semAt_some

set_option maxRecDepth 100000 in
set_option maxHeartbeats 40000000 in
theorem best_many (A : Option Addr) (n c : Nat) (cs : List Int) (most : Int) (w : World) (HR : ReadsInt w .i64 A n cs) (hok : okS cs most = true) (h2 : 2 ≤ many cs) :
    Calls Try.prog 35 #[.slice A n c, .int .i64 most] w fun e w' => ∃ (v : Value) (qc : List Pk), e = .returned (.tuple #[v, .int .i64 0]) ∧ Up qc ∧ FEq Pk.sum ((comeUp cs cs.length).map (coin (ln cs))) qc ∧ w'.ownsRow w.heap.size 3 1 v n (nums .i64 (lensS n (((pm qc (most.toNat - 1)).take (2 * many cs - 2)).flatMap Pk.syms))) ∧ Below w.heap.size w w' := by
  have hn : n ≤ 4096 := by
    unfold okS at hok
    simp at hok
    have := HR.1
    omega
  have hm : 1 ≤ most ∧ most ≤ 15 := by
    unfold okS at hok
    simp at hok
    omega
  have HFI0 : ∀ q ∈ (comeUp cs cs.length).map (coin (ln cs)), Fine n 0 q := by
    intro q hq
    obtain ⟨s, hs, rfl⟩ := List.mem_map.1 hq
    unfold comeUp at hs
    rw [List.mem_filter, List.mem_range] at hs
    have hb : badCnt (ln cs s) = false := by
      unfold okS at hok
      simp at hok
      have := hok.1.2 (ln cs s) (ln_mem hs.1)
      simpa using this
    unfold badCnt at hb
    simp at hb
    exact coin_fine (by omega) (by omega) (by have := HR.1; omega)
  have HRR := Lib.hid HR; have HL := Lib.hid HR.1; have HOK := Lib.hid hok; have HM2 := Lib.hid h2
  have hmk := print_make (P := Try.prog) 22 3 .i64 8 Try.underlying22 info_int (by decide) n (by omega)
  clear HR hok
  obtain ⟨mk, rfl⟩ := Int.eq_ofNat_of_zero_le (show 0 ≤ most by omega)
  refine (callsIn_wide (n := 9)).1 (callsIn_of_wp_marks Try.func35 rfl trivial ?_ rfl)
  refine wpIn_wide.2 ?_
  simp only [Try.ntmps35, List.size_toArray, List.length_cons, List.length_nil, Nat.reduceAdd, Nat.reduceSub, Array.replicate_succ, Array.replicate_zero, List.push_toArray, List.append_toArray, List.nil_append, List.cons_append]
  have HFI1 := Lib.hid HFI0
  clear HFI0
  go_wp2_with fail
  refine (check_size A n c cs mk w HRR.out).mono ?_
  rintro e w' ⟨rfl, rfl⟩
  rw [HOK.out]
  go_wp2_with fail
  have hO1 := own_made w w.heap.size 3 .i64 n (by simp) (by omega)
  have hB1 : Below w.heap.size w (w.alloc (.cells (madeCells #[.int .i64 0] n) 3)) := (Below.refl _ w).alloc (Nat.le_refl _) _
  have hz1 : (w.alloc (.cells (madeCells #[.int .i64 0] n) 3)).heap.size = w.heap.size + 1 := by simp
  have hbl := blk_alloc (w := w) (.cells (madeCells #[.int .i64 0] n) 3)
  generalize hw1 : w.alloc (.cells (madeCells #[.int .i64 0] n) 3) = w1 at *
  have HO1 := Lib.hid hO1; have HB1 := Lib.hid hB1; have HZ1 := Lib.hid hz1
  have HR1 := Lib.hid (HRR.out.below hB1)
  clear hw1 hO1 hB1 hz1 hbl hmk
  refine (single_any A n c cs w1 HR1.out hn).mono ?_
  rintro e w2 ⟨hB2, ⟨hc0, rfl⟩ | ⟨gc, cc, psc, qc, rfl, hOc, hMc, hUc, hFc⟩⟩
  · have := HM2.out
    rw [show many cs = (comeUp cs cs.length).length from (comeUp_len cs _).symm, hc0] at this
    simp at this
  have HB2 := Lib.hid (below_then HB1.out HB1.out.size hB2)
  have HB12 := Lib.hid hB2
  have HFI := Lib.hid (show ∀ q ∈ qc, Fine n 0 q from fun q hq => HFI1.out q ((hFc.mem q).2 hq))
  have HOc := Lib.hid hOc; have HMc := Lib.hid hMc; have HUc := Lib.hid hUc; have HFc := Lib.hid hFc
  have hml : many cs ≤ 4096 := by have := mnUp_le cs cs.length; have := HL.out; unfold many; omega
  clear hB2 hOc hMc hUc hFc HFI1
  generalize hN : many cs = N at *
  have HN := Lib.hid hN
  clear hN
  go_wp2_with fail
  have hqN : qc.length = N := by have := HMc.out.1; have := HOc.out.length; omega
  have HQN := Lib.hid hqN
  clear hqN
  refine wp_loop (fun a' w' => ∃ (u11 u48 u49 u50 u68 u69 u70 u71 : Value) (Ds : List Nat) (k gl cl M : Nat) (psl : List Parcel) (ql : List Pk), a' = { tmps := #[.slice A n c, .int .i64 mk, undef, undef, .slice none 0 0, .int .i64 0, .slice (some ⟨w.heap.size, 0, none⟩) n n, .slice (some ⟨gc, 0, none⟩) N cc, undef, undef, .slice (some ⟨gl, 0, none⟩) M cl, u11, undef, undef, undef, undef, undef, undef, .slice A n c, .int .i64 mk, .bool true, .bool false, .slice A n c, .int .i64 n, .slice (some ⟨w.heap.size, 0, none⟩) n n, .slice A n c, .slice (some ⟨gc, 0, none⟩) N cc, .slice (some ⟨gc, 0, none⟩) N cc, .int .i64 N, .bool (decide ((N : Int) < 2)), undef, undef, undef, undef, undef, undef, undef, undef, undef, undef, undef, undef, undef, undef, .slice (some ⟨gc, 0, none⟩) N cc, .int .i64 mk, .int .i64 ((mk : Int) - 1), .int .i64 k, u48, u49, u50, undef, undef, undef, undef, undef, undef, undef, undef, undef, undef, undef, undef, undef, undef, undef, undef, undef, u68, u69, u70, u71, undef, undef, undef, undef, undef, undef, undef, undef, undef, undef, undef, undef, undef, undef, undef, undef, undef, undef, undef, undef, undef, undef, undef, undef, undef, undef, undef], defers := Ds.map mark } ∧ k + 1 ≤ mk ∧ N ≤ M ∧ M ≤ 2 * N ∧ (M ≤ cl ∧ w1.heap.size ≤ gl) ∧ Hid (Marked w' w1.heap.size Ds) ∧ Hid (ql = pm qc k ∧ ql.length = M) ∧ Hid (ReadsQ w' gl M psl ∧ Match w' w1.heap.size psl ql) ∧ Hid (Mods [] w2 w')) (fun a' _ => mk - (intOf (a'.tmps.getD 47 undef)).toNat) ?start ?round
  case start =>
    obtain ⟨_, _, _, _, hcap⟩ := HOc.out.blk
    exact ⟨undef, undef, undef, undef, undef, undef, undef, undef, [], 0, gc, cc, N, psc, qc, rfl, by omega, by omega, by omega, ⟨hcap, own_base HOc.out gc rfl⟩, Marked.nil _ _, ⟨rfl, HQN.out⟩, ⟨HOc.out.reads, HMc.out⟩, Mods.refl _ _⟩
  case round =>
    rintro _ wo ⟨u11, u48, u49, u50, u68, u69, u70, u71, Ds, k, gl, cl, M, psl, ql, rfl, hk, hM1, hM2, ⟨hMc1, hMc2⟩, HD, HQ, HRM, HMW⟩
    by_cases hlt : k + 1 < mk
    · have hlt2 : (k : Int) < (mk : Int) - 1 := by omega
      go_wp2_with fail
      refine (pairs_any _ _ _ _).mono ?_
      rintro e w3 ⟨rfl, hw3⟩
      go_wp2_with fail
      have hFq : ∀ q ∈ ql, Fine n k q := by rw [HQ.out.1]; exact pm_fine qc HFI.out k
      have HST := Lib.hid (HRM.out.2.stands hFq)
      have HTM := Lib.hid HRM.out.2.eq
      generalize toPk wo w1.heap.size = T at HST HTM
      have hlen : psl.length = M := HRM.out.1.1
      have hglt : gl < wo.heap.size := by
        obtain ⟨p, hp⟩ : ∃ p, psl[0]? = some p := ⟨_, List.getElem?_eq_getElem (by omega)⟩
        exact World.block_lt_of_cell? wo _ (HRM.out.1.2 _ _ (pcs_get psl 0 p hp).1)
      have hlo : w1.heap.size ≤ wo.heap.size := Nat.le_trans HB12.out.size HMW.out.size
      clear hw3 w3 hFq
      have hW0s : ((wo.alloc (.cells #[.slice none 0 0] 90)).alloc (.cells #[.slice (some ⟨gl, 0, none⟩) M cl] 90)).heap.size = wo.heap.size + 2 := by simp
      have hM0 : Mods [] wo ((wo.alloc (.cells #[.slice none 0 0] 90)).alloc (.cells #[.slice (some ⟨gl, 0, none⟩) M cl] 90)) := ((Mods.refl _ _).alloc _).alloc _
      have hNB := (Boxed.new wo 90 (.slice none 0 0)).alloc (.cells #[.slice (some ⟨gl, 0, none⟩) M cl] 90)
      have hLB := (Boxed.new (wo.alloc (.cells #[.slice none 0 0] 90)) 90 (.slice (some ⟨gl, 0, none⟩) M cl)).cell
      rw [World.size_alloc] at hLB
      generalize ((wo.alloc (.cells #[.slice none 0 0] 90)).alloc (.cells #[.slice (some ⟨gl, 0, none⟩) M cl] 90)) = W0 at *
      have hRd := HRM.out.1.mods hM0 (by simp)
      have hcl : ∀ i p, psl[i]? = some p → W0.cell? ⟨gl, i * 2, none⟩ = some (.int .i64 p.sum) ∧ W0.cell? ⟨gl, i * 2 + 1, none⟩ = some (.slice p.A p.n p.c) := fun i p hp => ⟨hRd.2 _ _ (pcs_get psl i p hp).1, hRd.2 _ _ (pcs_get psl i p hp).2⟩
      have HM0 := Lib.hid hM0
      clear hM0
      generalize hNBe : wo.heap.size = NB at *
      refine (wpIn_wide (n := 5)).1 ?_
      refine wpIn_rangeFunc_ownH rfl (by decide) (gf := 62) (lb := #[.pointer (some ⟨NB + 1, 0, none⟩)]) rfl trivial (enters_of Try.func62 (by kernel_rfl) rfl)
        (pairs_stops (5 - 1) (by decide) (NB + 1) gl M cl psl hlen (by omega) W0 (by omega) (by omega) hLB hcl) keep2_t (keep2_b (by omega) (by omega)) (Below.refl _ _) (fun _ => rfl)
        (RangeI NB w1.heap.size W0 (fun x => joinP T x.1)) (fun _ _ _ => False) (rangeI_own _ _ _ _) (fun _ _ _ _ _ h _ _ => h) ⟨⟨.slice none 0 0, [], hNB, own_nil _ _ _ _, Match.nil _ _⟩, Mods.refl _ _⟩
        (fun x a' W => ∃ A1 B1, RangeA NB (NB + 2) x.1 A1 B1 W ∧ a' = { tmps := #[.slice A n c, .int .i64 mk, undef, undef, .slice none 0 0, .int .i64 0, .slice (some ⟨w.heap.size, 0, none⟩) n n, .slice (some ⟨gc, 0, none⟩) N cc, undef, undef, .slice (some ⟨gl, 0, none⟩) M cl, .pointer (some ⟨NB, 0, none⟩), .pointer (some ⟨A1, 0, none⟩), .pointer (some ⟨B1, 0, none⟩), undef, undef, undef, undef, .slice A n c, .int .i64 mk, .bool true, .bool false, .slice A n c, .int .i64 n, .slice (some ⟨w.heap.size, 0, none⟩) n n, .slice A n c, .slice (some ⟨gc, 0, none⟩) N cc, .slice (some ⟨gc, 0, none⟩) N cc, .int .i64 N, .bool (decide ((N : Int) < 2)), undef, undef, undef, undef, undef, undef, undef, undef, undef, undef, undef, undef, undef, undef, .slice (some ⟨gc, 0, none⟩) N cc, .int .i64 mk, .int .i64 ((mk : Int) - 1), .int .i64 k, .bool true, .slice (some ⟨gl, 0, none⟩) M cl, .func (.func 62) #[] #[.pointer (some ⟨NB + 1, 0, none⟩)], .agg #[.int .i64 x.1.1.sum, .slice x.1.1.A x.1.1.n x.1.1.c], .agg #[.int .i64 x.1.2.sum, .slice x.1.2.A x.1.2.n x.1.2.c], undef, undef, undef, undef, undef, undef, undef, undef, undef, undef, undef, undef, undef, undef, undef, u68, u69, u70, u71, undef, undef, undef, undef, undef, undef, undef, undef, undef, undef, undef, undef, undef, undef, undef, undef, undef, undef, undef, undef, undef, undef, undef, undef, undef, undef, undef], defers := [] }) (fun x a' s X Y row hs hg hr => by obtain ⟨A1, B1, h1, h2⟩ := hs; exact ⟨A1, B1, rangeA_own (β := Unit) NB (NB + 2) x.1 A1 B1 _ () X Y row h1 hg hr, h2⟩)
        ?assign ?body ?done ?stop
      case assign =>
        rintro l pre ⟨⟨p, q⟩, hmem⟩ W K hI hK
        have HII := Lib.hid hI
        obtain ⟨⟨v, ps, hb, ho, hma⟩, hmo⟩ := hI
        have hz := hmo.size
        have hvl := ho.lt
        have hKI := Lib.hid hK
        clear hK hma hmo
        unfold encPP encP
        dsimp only
        gi_wp2
        refine hKI.out _ _ (((KeepsOthers.alloc _ _).trans (KeepsOthers.alloc _ _)).from _) ⟨(Below.heap_alloc _ _ _ (by simp; omega)).trans (Below.heap_alloc _ _ _ (by omega)), (Below.heap_alloc _ _ _ (by simp; omega)).trans (Below.heap_alloc _ _ _ (by omega))⟩
          ((rangeI_own _ _ _ _).alloc _ ((rangeI_own _ _ _ _).alloc _ HII.out)) ⟨W.heap.size, W.heap.size + 1, ⟨v, (hb.alloc _).alloc _, fun e => ?_, fun e => ?_, (Below.heap_alloc _ _ _ (by simp)).trans (blk_alloc _), ?_, by omega, by omega⟩, rfl⟩
        · have := (hvl _ e).2; omega
        · have := (hvl _ e).2; omega
        · have := blk_alloc (w := W.alloc (.cells #[.int .i64 p.sum, .slice p.A p.n p.c] 93)) (.cells #[.int .i64 q.sum, .slice q.A q.n q.c] 93)
          rw [World.size_alloc] at this
          exact this
      case body =>
        rintro l pre ⟨⟨p, q⟩, hmem⟩ a' W hl hrec ⟨⟨v, ps, hb, ho, hma⟩, hmo⟩ ⟨A1, B1, ⟨v', hb', hv1, hv2, hA, hB, hAge, hBge⟩, rfl⟩ hpl
        refine wpIn_block ?_
        obtain rfl : v' = v := by have := (show W.heap[NB]? = _ from hb').symm.trans hb; simpa using this
        obtain ⟨hp1, hp2⟩ := pr_mem psl (p, q) hmem
        have hSp := HST.out p hp1
        have hSq := HST.out q hp2
        have hcalm : ∀ t ∈ [NB], Calm W0 t := by intro t ht; simp at ht; subst ht; exact calm_box hNB (by decide)
        have hsp : SymOf W w1.heap.size p (T p).syms := (hSp.sym.calm HM0.out (by simp)).calm hmo hcalm
        have hsq : SymOf W w1.heap.size q (T q).syms := (hSq.sym.calm HM0.out (by simp)).calm hmo hcalm
        have hF : joinP T (p, q) = ⟨p.sum + q.sum, (T p).syms ++ (T q).syms⟩ := by unfold joinP; rw [hSp.sum, hSq.sum]
        have hf1 := hSp.fine
        have hf2 := hSq.fine
        have e1 := hSp.sum
        have e2 := hSq.sum
        have hpw : (2 : Nat) ^ k ≤ 16384 := by
          have : (2 : Nat) ^ k ≤ 2 ^ 14 := Nat.pow_le_pow_right (by decide) (by omega)
          omega
        have hpi : (2 : Int) ^ k ≤ 16384 := by exact_mod_cast hpw
        have hx1 := hf1.few
        have hy1 := hf2.few
        have hx0 := hf1.some_
        have hy0 := hf2.some_
        have hl1 := hf1.lo
        have hl2 := hf2.lo
        have hu1 := hf1.hi
        have hu2 := hf2.hi
        rw [← e1] at hl1 hu1
        rw [← e2] at hl2 hu2
        have hFx := Lib.hid hF
        clear hSp hSq hf1 hf2 e1 e2 hcalm hF
        generalize (T p).syms = xs at *
        generalize (T q).syms = ys at *
        obtain ⟨p1, pA, pn, pc⟩ := p
        obtain ⟨q1, qA, qn, qc1⟩ := q
        obtain ⟨adp, rfl⟩ : ∃ ad, pA = some ad := by obtain ⟨_, ad, _, h, _⟩ := hsp; exact ⟨ad, h⟩
        obtain ⟨adq, rfl⟩ : ∃ ad, qA = some ad := by obtain ⟨_, ad, _, h, _⟩ := hsq; exact ⟨ad, h⟩
        have hpn : pn = xs.length := hsp.1
        have hqn : qn = ys.length := hsq.1
        have HRp := Lib.hid (show ReadsInt W.drew .i64 (some adp) pn (symInts xs) from hsp.reads (by omega))
        have HRq := Lib.hid (show ReadsInt W.drew .i64 (some adq) qn (symInts ys) from hsq.reads (by omega))
        dsimp only at hl1 hl2 hu1 hu2 hA hB ⊢
        have hwr : IntKind.i64.wrap (p1 + q1) = p1 + q1 := by rw [IntWalk.i64_in _ (by omega)]
        have hAl := blk_lt hA
        have hBl := blk_lt hB
        have HSX := Lib.hid (show ∀ W' : World, (∀ b, b = A1 ∨ b = B1 → W'.heap[b]? = W.heap[b]?) → (W'.cell? ⟨A1, 0, none⟩ = some (.int .i64 p1) ∧ W'.cell? ⟨A1, 1, none⟩ = some (.slice (some adp) pn pc)) ∧ (W'.cell? ⟨B1, 0, none⟩ = some (.int .i64 q1) ∧ W'.cell? ⟨B1, 1, none⟩ = some (.slice (some adq) qn qc1)) from fun W' h => by
          have h1 := (h A1 (.inl rfl)).trans hA
          have h2 := (h B1 (.inr rfl)).trans hB
          exact ⟨⟨by rw [cell_blk h1]; rfl, by rw [cell_blk h1]; rfl⟩, by rw [cell_blk h2]; rfl, by rw [cell_blk h2]; rfl⟩)
        have hcN : W.drew.cell? ⟨NB, 0, none⟩ = some v' := hb.cell
        have HO := Lib.hid ho; have HB := Lib.hid hb; have HMA := Lib.hid hma; have HMO := Lib.hid hmo
        have hz := hmo.size
        have hvl := ho.lt
        have hpsl : ps.length ≤ M := by rw [hma.1, List.length_map]; omega
        have hpn1 : 1 ≤ pn ∧ pn ≤ 16384 := by omega
        have hqn1 : 1 ≤ qn ∧ qn ≤ 16384 := by omega
        have hW0a : NB + 2 ≤ W0.heap.size := by omega
        have hW0b : W0.heap.size ≤ NB + 2 := by omega
        clear ho hb hb' hma hmo hsp hsq hA hB hpn hqn hW0s hx0 hx1 hy0 hy1 hNBe
        refine wpIn_region_round (S := fun w => (w.cell? ⟨A1, 0, none⟩ = some (.int .i64 p1) ∧ w.cell? ⟨A1, 1, none⟩ = some (.slice (some adp) pn pc)) ∧ (w.cell? ⟨B1, 0, none⟩ = some (.int .i64 q1) ∧ w.cell? ⟨B1, 1, none⟩ = some (.slice (some adq) qn qc1))) (by kernel_rfl) (by kernel_rfl) (fun ⟨_, _, h⟩ => h) ?_
        have hHeld := HSX.out W.drew (fun _ _ => rfl)
        refine wpAnyH_take (i := 1) (oi := _) (v := ?_) (by simp only [List.getElem?_toArray, List.getElem?_cons_succ, List.getElem?_cons_zero]; rfl) (by kernel_rfl) (by kernel_rfl) (by kernel_rfl) (fun _ _ _ h => h) (Or.inl ⟨by rfl, ?_⟩) hHeld ?_
        rotate_left 1
        · intro w hSw
          try dsimp only at hSw
          first | (go_simp; done) | (go_simp; with_reducible rfl)
        try simp only [Act.put, List.setIfInBounds_toArray, List.set_cons_zero, List.set_cons_succ]
        refine wpAnyH_take (i := 2) (oi := _) (v := ?_) (by simp only [List.getElem?_toArray, List.getElem?_cons_succ, List.getElem?_cons_zero]; rfl) (by kernel_rfl) (by kernel_rfl) (by kernel_rfl) (fun _ _ _ h => h) (Or.inl ⟨by rfl, ?_⟩) hHeld ?_
        rotate_left 1
        · intro w hSw
          try dsimp only at hSw
          first | (go_simp; done) | (go_simp; with_reducible rfl)
        try simp only [Act.put, List.setIfInBounds_toArray, List.set_cons_zero, List.set_cons_succ]
        refine wpAnyH_take (i := 3) (oi := _) (v := ?_) (by simp only [List.getElem?_toArray, List.getElem?_cons_succ, List.getElem?_cons_zero]; rfl) (by kernel_rfl) (by kernel_rfl) (by kernel_rfl) (fun _ _ _ h => h) (Or.inl ⟨by rfl, ?_⟩) hHeld ?_
        rotate_left 1
        · intro w hSw
          try dsimp only at hSw
          first | (go_simp; done) | (go_simp; with_reducible rfl)
        try simp only [Act.put, List.setIfInBounds_toArray, List.set_cons_zero, List.set_cons_succ]
        refine wpAnyH_take (i := 4) (oi := _) (v := ?_) (by simp only [List.getElem?_toArray, List.getElem?_cons_succ, List.getElem?_cons_zero]; rfl) (by kernel_rfl) (by kernel_rfl) (by kernel_rfl) (fun _ _ _ h => h) (Or.inl ⟨by rfl, ?_⟩) hHeld ?_
        rotate_left 1
        · intro w hSw
          try dsimp only at hSw
          first | (go_simp; done) | (go_simp; with_reducible rfl)
        try simp only [Act.put, List.setIfInBounds_toArray, List.set_cons_zero, List.set_cons_succ]
        refine wpAnyH_take (i := 5) (oi := _) (v := ?_) (by simp only [List.getElem?_toArray, List.getElem?_cons_succ, List.getElem?_cons_zero]; rfl) (by kernel_rfl) (by kernel_rfl) (by kernel_rfl) (fun _ _ _ h => h) (Or.inl ⟨by rfl, ?_⟩) hHeld ?_
        rotate_left 1
        · intro w hSw
          try dsimp only at hSw
          first | (go_simp; done) | (go_simp; with_reducible rfl)
        try simp only [Act.put, List.setIfInBounds_toArray, List.set_cons_zero, List.set_cons_succ]
        refine wpAnyH_take (i := 6) (oi := _) (v := ?_) (by simp only [List.getElem?_toArray, List.getElem?_cons_succ, List.getElem?_cons_zero]; rfl) (by kernel_rfl) (by kernel_rfl) (by kernel_rfl) (fun _ _ _ h => h) (Or.inl ⟨by rfl, ?_⟩) hHeld ?_
        rotate_left 1
        · intro w hSw
          try dsimp only at hSw
          first | (go_simp; done) | (go_simp; with_reducible rfl)
        try simp only [Act.put, List.setIfInBounds_toArray, List.set_cons_zero, List.set_cons_succ]
        refine wpAnyH_take (i := 7) (oi := _) (v := ?_) (by simp only [List.getElem?_toArray, List.getElem?_cons_succ, List.getElem?_cons_zero]; rfl) (by kernel_rfl) (by kernel_rfl) (by kernel_rfl) (fun _ _ _ h => h) (Or.inl ⟨by rfl, ?_⟩) hHeld ?_
        rotate_left 1
        · intro w hSw
          try dsimp only at hSw
          first | (go_simp; done) | (go_simp; with_reducible rfl)
        try simp only [Act.put, List.setIfInBounds_toArray, List.set_cons_zero, List.set_cons_succ]
        refine wpAnyH_take (i := 9) (oi := _) (v := ?_) (by simp only [List.getElem?_toArray, List.getElem?_cons_succ, List.getElem?_cons_zero]; rfl) (by kernel_rfl) (by kernel_rfl) (by kernel_rfl) (fun _ _ _ h => h) (Or.inl ⟨by rfl, ?_⟩) hHeld ?_
        rotate_left 1
        · intro w hSw
          try dsimp only at hSw
          first | (go_simp; done) | (go_simp; with_reducible rfl)
        try simp only [Act.put, List.setIfInBounds_toArray, List.set_cons_zero, List.set_cons_succ]
        refine wpAnyH_take (i := 10) (oi := _) (v := ?_) (by simp only [List.getElem?_toArray, List.getElem?_cons_succ, List.getElem?_cons_zero]; rfl) (by kernel_rfl) (by kernel_rfl) (by kernel_rfl) (fun _ _ _ h => h) (Or.inl ⟨by rfl, ?_⟩) hHeld ?_
        rotate_left 1
        · intro w hSw
          try dsimp only at hSw
          first | (go_simp; done) | (go_simp; with_reducible rfl)
        try simp only [Act.put, List.setIfInBounds_toArray, List.set_cons_zero, List.set_cons_succ]
        refine wpAnyH_ready (rs := [0, 8]) (by kernel_rfl) (by simp) ?_
        refine AllReadyH.cons (o := _) (by simp only [List.getElem?_toArray, List.getElem?_cons_zero]; rfl) (fun K hK => ?_) ?_
        · go_simp
          refine hK.out _ _ ?_ (fun hHeld2 => ?_)
          · (try dsimp only)
            first | assumption | exact HS1.out | exact HS2.out | exact HS2a.out _ | exact HS3.out | exact HS4.out _
          clear hK K hHeld
          have hHeld := hHeld2
          clear hHeld2
          try simp only [Act.put, List.setIfInBounds_toArray, List.set_cons_zero, List.set_cons_succ]
          refine wpAnyH_ready (rs := [8]) (by kernel_rfl) (by simp) ?_
          refine AllReadyH.cons (o := _) (by simp only [List.getElem?_toArray, List.getElem?_cons_succ, List.getElem?_cons_zero]; rfl) (fun K hK => ?_) ?_
          · go_simp
            refine (cloneIb (some adp) pn pc (symInts xs) _ HRp.out (by omega)).mono ?_
            rintro e W1 ⟨v1, rfl, hO1, hB1⟩
            obtain ⟨g1, c1, rfl, hg1⟩ := own_someQ hO1 (by omega)
            have hcN1 : W1.cell? ⟨NB, 0, none⟩ = some v' := pw_cell_below hB1 hcN
            have HS1 := Lib.hid (HSX.out W1 (by rintro b (rfl | rfl); exact hB1.block _ hAl; exact hB1.block _ hBl))
            have HO1 := Lib.hid hO1
            have HB1 := Lib.hid hB1
            have hz1 : W.heap.size ≤ W1.heap.size := hB1.size
            clear hO1 hB1
            refine hK.out _ _ ?_ (fun hHeld2 => ?_)
            · (try dsimp only)
              first | assumption | exact HS1.out | exact HS2.out | exact HS2a.out _ | exact HS3.out | exact HS4.out _
            clear hK K hHeld
            have hHeld := hHeld2
            clear hHeld2
            try simp only [Act.put, List.setIfInBounds_toArray, List.set_cons_zero, List.set_cons_succ]
            refine wpAnyH_ready (rs := [11]) (by kernel_rfl) (by simp) ?_
            refine AllReadyH.cons (o := _) (by simp only [List.getElem?_toArray, List.getElem?_cons_succ, List.getElem?_cons_zero]; rfl) (fun K hK => ?_) ?_
            · refine step_append_row (w0 := W.drew) W.heap.size (by rfl) _ _ 22 3 rfl Try.underlying22 info_int _ pn (symInts xs) (symInts ys) adq qn qc1 rfl rfl HO1.out (HRq.out.below HB1.out) HB1.out hz1 (by omega) ?_
              intro v2 W2 hown2 hB2 hg2 hat2
              obtain ⟨g2, c2, rfl, hgb2⟩ := own_someQ hown2 (by omega)
              have hcN2 : W2.cell? ⟨NB, 0, none⟩ = some v' := pw_cell_below hB2 hcN
              have hcN2a : (W2.alloc (.cells #[.int .i64 (p1 + q1), .slice (some ⟨g2, 0, none⟩) (pn + qn) c2] 93)).cell? ⟨NB, 0, none⟩ = some v' := pw_cell_below (hB2.alloc hB2.size _) hcN
              have HS2 := Lib.hid (HSX.out W2 (by rintro b (rfl | rfl); exact hB2.block _ hAl; exact hB2.block _ hBl))
              have HS2a := Lib.hid (show ∀ o, _ from fun o => HSX.out (W2.alloc o) (by rintro b (rfl | rfl); exact (hB2.alloc hB2.size _).block _ hAl; exact (hB2.alloc hB2.size _).block _ hBl))
              have HO2 := Lib.hid (show W2.ownsRow W.heap.size 3 1 (.slice (some ⟨g2, 0, none⟩) (pn + qn) c2) (pn + qn) (nums .i64 (symInts (xs ++ ys))) from by rw [symInts_append]; exact hown2)
              have HB2 := Lib.hid (show Below W.heap.size W W2 from ⟨hB2.os, hB2.tape, hB2.output, hB2.size, hB2.block⟩)
              have hz2 : W.heap.size ≤ W2.heap.size := hB2.size
              clear hown2 hB2 hg2 hat2
              refine hK.out _ _ ?_ (fun hHeld2 => ?_)
              · (try dsimp only)
                first | assumption | exact HS1.out | exact HS2.out | exact HS2a.out _ | exact HS3.out | exact HS4.out _
              clear hK K hHeld
              have hHeld := hHeld2
              clear hHeld2
              try simp only [Act.put, List.setIfInBounds_toArray, List.set_cons_zero, List.set_cons_succ]
              refine wpAnyH_take (i := 12) (oi := _) (v := ?_) (by simp only [List.getElem?_toArray, List.getElem?_cons_succ, List.getElem?_cons_zero]; rfl) (by kernel_rfl) (by kernel_rfl) (by kernel_rfl) (fun _ _ _ h => h) (Or.inl ⟨by rfl, ?_⟩) hHeld ?_
              rotate_left 1
              · intro w hSw
                try dsimp only at hSw
                first | (go_simp; done) | (go_simp; with_reducible rfl)
              try simp only [Act.put, List.setIfInBounds_toArray, List.set_cons_zero, List.set_cons_succ]
              refine wpAnyH_ready (rs := [13]) (by kernel_rfl) (by simp) ?_
              refine AllReadyH.cons (o := _) (by simp only [List.getElem?_toArray, List.getElem?_cons_succ, List.getElem?_cons_zero]; rfl) (fun K hK => ?_) ?_
              · go_simp
                refine hK.out _ _ ?_ (fun hHeld2 => ?_)
                · (try dsimp only)
                  first | assumption | exact HS1.out | exact HS2.out | exact HS2a.out _ | exact HS3.out | exact HS4.out _
                clear hK K hHeld
                have hHeld := hHeld2
                clear hHeld2
                try simp only [Act.put, List.setIfInBounds_toArray, List.set_cons_zero, List.set_cons_succ]
                refine wpAnyH_ready (rs := [14]) (by kernel_rfl) (by simp) ?_
                refine AllReadyH.cons (o := _) (by simp only [List.getElem?_toArray, List.getElem?_cons_succ, List.getElem?_cons_zero]; rfl) (fun K hK => ?_) ?_
                · refine step_append_cells (w0 := W2) (W := W2) W0.heap.size (by rfl) _ _ 90 93 (.agg #[.int .i64 0, .slice none 0 0]) 2 32 rfl Try.underlying90 info_parcel rfl (by decide) (by decide) v' ps.length (pcs ps) [.int .i64 (p1 + q1), .slice (some ⟨g2, 0, none⟩) (pn + qn) c2] rfl rfl rfl (by simp; exact ⟨rfl, rfl⟩) (pw_own_below HO.out HB2.out) (Below.refl _ _) (by omega) (by omega) ?_
                  intro v3 W3 hown3 hB3 hg3 hat3
                  obtain ⟨g3, c3, rfl, hgb3⟩ := own_someQ hown3 (by omega)
                  have hbx3 : Boxed W3 NB 90 v' := ((Mods.of_grown hg3).blk ((Mods.of_below HB2.out []).blk HB.out (by simp)) (by intro h; have := hvl NB (by simpa using h); omega))
                  have hcN3 := hbx3.cell
                  have hfN3 := hbx3.frozen
                  have hblk3 : ∀ b, b = A1 ∨ b = B1 → W3.heap[b]? = W.heap[b]? := by
                    rintro b (rfl | rfl)
                    · exact (hg3.block _ (by omega) (fun e => hv1 e.symm)).trans (HB2.out.block _ hAl)
                    · exact (hg3.block _ (by omega) (fun e => hv2 e.symm)).trans (HB2.out.block _ hBl)
                  have HS3 := Lib.hid (HSX.out W3 hblk3)
                  have HS4 := Lib.hid (show ∀ u, _ from fun u => HSX.out (W3.setCell ⟨NB, 0, none⟩ u) (fun b hb => (Below.heap_setCell _ _ _ _ (by simp; omega)).trans (hblk3 b hb)))
                  have HO3 := Lib.hid hown3
                  have HG3 := Lib.hid hg3
                  clear hown3 hB3 hg3 hat3 hbx3 hblk3
                  refine hK.out _ _ ?_ (fun hHeld2 => ?_)
                  · (try dsimp only)
                    first | assumption | exact HS1.out | exact HS2.out | exact HS2a.out _ | exact HS3.out | exact HS4.out _
                  clear hK K hHeld
                  have hHeld := hHeld2
                  clear hHeld2
                  try simp only [Act.put, List.setIfInBounds_toArray, List.set_cons_zero, List.set_cons_succ]
                  refine wpAnyH_ready (rs := [15]) (by kernel_rfl) (by simp) ?_
                  refine AllReadyH.cons (o := _) (by simp only [List.getElem?_toArray, List.getElem?_cons_succ, List.getElem?_cons_zero]; rfl) (fun K hK => ?_) ?_
                  · go_simp
                    refine hK.out _ _ ?_ (fun hHeld2 => ?_)
                    · (try dsimp only)
                      first | assumption | exact HS1.out | exact HS2.out | exact HS2a.out _ | exact HS3.out | exact HS4.out _
                    clear hK K hHeld
                    have hHeld := hHeld2
                    clear hHeld2
                    try simp only [Act.put, List.setIfInBounds_toArray, List.set_cons_zero, List.set_cons_succ]
                    refine wpAnyH_done (by kernel_rfl) ?_ _
                    exact range_end (by omega) hlo hglt HB.out HO.out HMA.out HMO.out HB2.out HO2.out hFx.out HO3.out HG3.out rfl
                  exact AllReadyH.nil
                exact AllReadyH.nil
              exact AllReadyH.nil
            exact AllReadyH.nil
          exact AllReadyH.nil
        refine AllReadyH.cons (o := _) (by simp only [List.getElem?_toArray, List.getElem?_cons_succ, List.getElem?_cons_zero]; rfl) (fun K hK => ?_) ?_
        · go_simp
          refine (cloneIb (some adp) pn pc (symInts xs) _ HRp.out (by omega)).mono ?_
          rintro e W1 ⟨v1, rfl, hO1, hB1⟩
          obtain ⟨g1, c1, rfl, hg1⟩ := own_someQ hO1 (by omega)
          have hcN1 : W1.cell? ⟨NB, 0, none⟩ = some v' := pw_cell_below hB1 hcN
          have HS1 := Lib.hid (HSX.out W1 (by rintro b (rfl | rfl); exact hB1.block _ hAl; exact hB1.block _ hBl))
          have HO1 := Lib.hid hO1
          have HB1 := Lib.hid hB1
          have hz1 : W.heap.size ≤ W1.heap.size := hB1.size
          clear hO1 hB1
          refine hK.out _ _ ?_ (fun hHeld2 => ?_)
          · (try dsimp only)
            first | assumption | exact HS1.out | exact HS2.out | exact HS2a.out _ | exact HS3.out | exact HS4.out _
          clear hK K hHeld
          have hHeld := hHeld2
          clear hHeld2
          try simp only [Act.put, List.setIfInBounds_toArray, List.set_cons_zero, List.set_cons_succ]
          refine wpAnyH_ready (rs := [0, 11]) (by kernel_rfl) (by simp) ?_
          refine AllReadyH.cons (o := _) (by simp only [List.getElem?_toArray, List.getElem?_cons_zero]; rfl) (fun K hK => ?_) ?_
          · go_simp
            refine hK.out _ _ ?_ (fun hHeld2 => ?_)
            · (try dsimp only)
              first | assumption | exact HS1.out | exact HS2.out | exact HS2a.out _ | exact HS3.out | exact HS4.out _
            clear hK K hHeld
            have hHeld := hHeld2
            clear hHeld2
            try simp only [Act.put, List.setIfInBounds_toArray, List.set_cons_zero, List.set_cons_succ]
            refine wpAnyH_ready (rs := [11]) (by kernel_rfl) (by simp) ?_
            refine AllReadyH.cons (o := _) (by simp only [List.getElem?_toArray, List.getElem?_cons_succ, List.getElem?_cons_zero]; rfl) (fun K hK => ?_) ?_
            · refine step_append_row (w0 := W.drew) W.heap.size (by rfl) _ _ 22 3 rfl Try.underlying22 info_int _ pn (symInts xs) (symInts ys) adq qn qc1 rfl rfl HO1.out (HRq.out.below HB1.out) HB1.out hz1 (by omega) ?_
              intro v2 W2 hown2 hB2 hg2 hat2
              obtain ⟨g2, c2, rfl, hgb2⟩ := own_someQ hown2 (by omega)
              have hcN2 : W2.cell? ⟨NB, 0, none⟩ = some v' := pw_cell_below hB2 hcN
              have hcN2a : (W2.alloc (.cells #[.int .i64 (p1 + q1), .slice (some ⟨g2, 0, none⟩) (pn + qn) c2] 93)).cell? ⟨NB, 0, none⟩ = some v' := pw_cell_below (hB2.alloc hB2.size _) hcN
              have HS2 := Lib.hid (HSX.out W2 (by rintro b (rfl | rfl); exact hB2.block _ hAl; exact hB2.block _ hBl))
              have HS2a := Lib.hid (show ∀ o, _ from fun o => HSX.out (W2.alloc o) (by rintro b (rfl | rfl); exact (hB2.alloc hB2.size _).block _ hAl; exact (hB2.alloc hB2.size _).block _ hBl))
              have HO2 := Lib.hid (show W2.ownsRow W.heap.size 3 1 (.slice (some ⟨g2, 0, none⟩) (pn + qn) c2) (pn + qn) (nums .i64 (symInts (xs ++ ys))) from by rw [symInts_append]; exact hown2)
              have HB2 := Lib.hid (show Below W.heap.size W W2 from ⟨hB2.os, hB2.tape, hB2.output, hB2.size, hB2.block⟩)
              have hz2 : W.heap.size ≤ W2.heap.size := hB2.size
              clear hown2 hB2 hg2 hat2
              refine hK.out _ _ ?_ (fun hHeld2 => ?_)
              · (try dsimp only)
                first | assumption | exact HS1.out | exact HS2.out | exact HS2a.out _ | exact HS3.out | exact HS4.out _
              clear hK K hHeld
              have hHeld := hHeld2
              clear hHeld2
              try simp only [Act.put, List.setIfInBounds_toArray, List.set_cons_zero, List.set_cons_succ]
              refine wpAnyH_take (i := 12) (oi := _) (v := ?_) (by simp only [List.getElem?_toArray, List.getElem?_cons_succ, List.getElem?_cons_zero]; rfl) (by kernel_rfl) (by kernel_rfl) (by kernel_rfl) (fun _ _ _ h => h) (Or.inl ⟨by rfl, ?_⟩) hHeld ?_
              rotate_left 1
              · intro w hSw
                try dsimp only at hSw
                first | (go_simp; done) | (go_simp; with_reducible rfl)
              try simp only [Act.put, List.setIfInBounds_toArray, List.set_cons_zero, List.set_cons_succ]
              refine wpAnyH_ready (rs := [13]) (by kernel_rfl) (by simp) ?_
              refine AllReadyH.cons (o := _) (by simp only [List.getElem?_toArray, List.getElem?_cons_succ, List.getElem?_cons_zero]; rfl) (fun K hK => ?_) ?_
              · go_simp
                refine hK.out _ _ ?_ (fun hHeld2 => ?_)
                · (try dsimp only)
                  first | assumption | exact HS1.out | exact HS2.out | exact HS2a.out _ | exact HS3.out | exact HS4.out _
                clear hK K hHeld
                have hHeld := hHeld2
                clear hHeld2
                try simp only [Act.put, List.setIfInBounds_toArray, List.set_cons_zero, List.set_cons_succ]
                refine wpAnyH_ready (rs := [14]) (by kernel_rfl) (by simp) ?_
                refine AllReadyH.cons (o := _) (by simp only [List.getElem?_toArray, List.getElem?_cons_succ, List.getElem?_cons_zero]; rfl) (fun K hK => ?_) ?_
                · refine step_append_cells (w0 := W2) (W := W2) W0.heap.size (by rfl) _ _ 90 93 (.agg #[.int .i64 0, .slice none 0 0]) 2 32 rfl Try.underlying90 info_parcel rfl (by decide) (by decide) v' ps.length (pcs ps) [.int .i64 (p1 + q1), .slice (some ⟨g2, 0, none⟩) (pn + qn) c2] rfl rfl rfl (by simp; exact ⟨rfl, rfl⟩) (pw_own_below HO.out HB2.out) (Below.refl _ _) (by omega) (by omega) ?_
                  intro v3 W3 hown3 hB3 hg3 hat3
                  obtain ⟨g3, c3, rfl, hgb3⟩ := own_someQ hown3 (by omega)
                  have hbx3 : Boxed W3 NB 90 v' := ((Mods.of_grown hg3).blk ((Mods.of_below HB2.out []).blk HB.out (by simp)) (by intro h; have := hvl NB (by simpa using h); omega))
                  have hcN3 := hbx3.cell
                  have hfN3 := hbx3.frozen
                  have hblk3 : ∀ b, b = A1 ∨ b = B1 → W3.heap[b]? = W.heap[b]? := by
                    rintro b (rfl | rfl)
                    · exact (hg3.block _ (by omega) (fun e => hv1 e.symm)).trans (HB2.out.block _ hAl)
                    · exact (hg3.block _ (by omega) (fun e => hv2 e.symm)).trans (HB2.out.block _ hBl)
                  have HS3 := Lib.hid (HSX.out W3 hblk3)
                  have HS4 := Lib.hid (show ∀ u, _ from fun u => HSX.out (W3.setCell ⟨NB, 0, none⟩ u) (fun b hb => (Below.heap_setCell _ _ _ _ (by simp; omega)).trans (hblk3 b hb)))
                  have HO3 := Lib.hid hown3
                  have HG3 := Lib.hid hg3
                  clear hown3 hB3 hg3 hat3 hbx3 hblk3
                  refine hK.out _ _ ?_ (fun hHeld2 => ?_)
                  · (try dsimp only)
                    first | assumption | exact HS1.out | exact HS2.out | exact HS2a.out _ | exact HS3.out | exact HS4.out _
                  clear hK K hHeld
                  have hHeld := hHeld2
                  clear hHeld2
                  try simp only [Act.put, List.setIfInBounds_toArray, List.set_cons_zero, List.set_cons_succ]
                  refine wpAnyH_ready (rs := [15]) (by kernel_rfl) (by simp) ?_
                  refine AllReadyH.cons (o := _) (by simp only [List.getElem?_toArray, List.getElem?_cons_succ, List.getElem?_cons_zero]; rfl) (fun K hK => ?_) ?_
                  · go_simp
                    refine hK.out _ _ ?_ (fun hHeld2 => ?_)
                    · (try dsimp only)
                      first | assumption | exact HS1.out | exact HS2.out | exact HS2a.out _ | exact HS3.out | exact HS4.out _
                    clear hK K hHeld
                    have hHeld := hHeld2
                    clear hHeld2
                    try simp only [Act.put, List.setIfInBounds_toArray, List.set_cons_zero, List.set_cons_succ]
                    refine wpAnyH_done (by kernel_rfl) ?_ _
                    exact range_end (by omega) hlo hglt HB.out HO.out HMA.out HMO.out HB2.out HO2.out hFx.out HO3.out HG3.out rfl
                  exact AllReadyH.nil
                exact AllReadyH.nil
              exact AllReadyH.nil
            exact AllReadyH.nil
          refine AllReadyH.cons (o := _) (by simp only [List.getElem?_toArray, List.getElem?_cons_succ, List.getElem?_cons_zero]; rfl) (fun K hK => ?_) ?_
          · refine step_append_row (w0 := W.drew) W.heap.size (by rfl) _ _ 22 3 rfl Try.underlying22 info_int _ pn (symInts xs) (symInts ys) adq qn qc1 rfl rfl HO1.out (HRq.out.below HB1.out) HB1.out hz1 (by omega) ?_
            intro v2 W2 hown2 hB2 hg2 hat2
            obtain ⟨g2, c2, rfl, hgb2⟩ := own_someQ hown2 (by omega)
            have hcN2 : W2.cell? ⟨NB, 0, none⟩ = some v' := pw_cell_below hB2 hcN
            have hcN2a : (W2.alloc (.cells #[.int .i64 (p1 + q1), .slice (some ⟨g2, 0, none⟩) (pn + qn) c2] 93)).cell? ⟨NB, 0, none⟩ = some v' := pw_cell_below (hB2.alloc hB2.size _) hcN
            have HS2 := Lib.hid (HSX.out W2 (by rintro b (rfl | rfl); exact hB2.block _ hAl; exact hB2.block _ hBl))
            have HS2a := Lib.hid (show ∀ o, _ from fun o => HSX.out (W2.alloc o) (by rintro b (rfl | rfl); exact (hB2.alloc hB2.size _).block _ hAl; exact (hB2.alloc hB2.size _).block _ hBl))
            have HO2 := Lib.hid (show W2.ownsRow W.heap.size 3 1 (.slice (some ⟨g2, 0, none⟩) (pn + qn) c2) (pn + qn) (nums .i64 (symInts (xs ++ ys))) from by rw [symInts_append]; exact hown2)
            have HB2 := Lib.hid (show Below W.heap.size W W2 from ⟨hB2.os, hB2.tape, hB2.output, hB2.size, hB2.block⟩)
            have hz2 : W.heap.size ≤ W2.heap.size := hB2.size
            clear hown2 hB2 hg2 hat2
            refine hK.out _ _ ?_ (fun hHeld2 => ?_)
            · (try dsimp only)
              first | assumption | exact HS1.out | exact HS2.out | exact HS2a.out _ | exact HS3.out | exact HS4.out _
            clear hK K hHeld
            have hHeld := hHeld2
            clear hHeld2
            try simp only [Act.put, List.setIfInBounds_toArray, List.set_cons_zero, List.set_cons_succ]
            refine wpAnyH_take (i := 12) (oi := _) (v := ?_) (by simp only [List.getElem?_toArray, List.getElem?_cons_succ, List.getElem?_cons_zero]; rfl) (by kernel_rfl) (by kernel_rfl) (by kernel_rfl) (fun _ _ _ h => h) (Or.inl ⟨by rfl, ?_⟩) hHeld ?_
            rotate_left 1
            · intro w hSw
              try dsimp only at hSw
              first | (go_simp; done) | (go_simp; with_reducible rfl)
            try simp only [Act.put, List.setIfInBounds_toArray, List.set_cons_zero, List.set_cons_succ]
            refine wpAnyH_ready (rs := [0, 13]) (by kernel_rfl) (by simp) ?_
            refine AllReadyH.cons (o := _) (by simp only [List.getElem?_toArray, List.getElem?_cons_zero]; rfl) (fun K hK => ?_) ?_
            · go_simp
              refine hK.out _ _ ?_ (fun hHeld2 => ?_)
              · (try dsimp only)
                first | assumption | exact HS1.out | exact HS2.out | exact HS2a.out _ | exact HS3.out | exact HS4.out _
              clear hK K hHeld
              have hHeld := hHeld2
              clear hHeld2
              try simp only [Act.put, List.setIfInBounds_toArray, List.set_cons_zero, List.set_cons_succ]
              refine wpAnyH_ready (rs := [13]) (by kernel_rfl) (by simp) ?_
              refine AllReadyH.cons (o := _) (by simp only [List.getElem?_toArray, List.getElem?_cons_succ, List.getElem?_cons_zero]; rfl) (fun K hK => ?_) ?_
              · go_simp
                refine hK.out _ _ ?_ (fun hHeld2 => ?_)
                · (try dsimp only)
                  first | assumption | exact HS1.out | exact HS2.out | exact HS2a.out _ | exact HS3.out | exact HS4.out _
                clear hK K hHeld
                have hHeld := hHeld2
                clear hHeld2
                try simp only [Act.put, List.setIfInBounds_toArray, List.set_cons_zero, List.set_cons_succ]
                refine wpAnyH_ready (rs := [14]) (by kernel_rfl) (by simp) ?_
                refine AllReadyH.cons (o := _) (by simp only [List.getElem?_toArray, List.getElem?_cons_succ, List.getElem?_cons_zero]; rfl) (fun K hK => ?_) ?_
                · refine step_append_cells (w0 := W2) (W := W2) W0.heap.size (by rfl) _ _ 90 93 (.agg #[.int .i64 0, .slice none 0 0]) 2 32 rfl Try.underlying90 info_parcel rfl (by decide) (by decide) v' ps.length (pcs ps) [.int .i64 (p1 + q1), .slice (some ⟨g2, 0, none⟩) (pn + qn) c2] rfl rfl rfl (by simp; exact ⟨rfl, rfl⟩) (pw_own_below HO.out HB2.out) (Below.refl _ _) (by omega) (by omega) ?_
                  intro v3 W3 hown3 hB3 hg3 hat3
                  obtain ⟨g3, c3, rfl, hgb3⟩ := own_someQ hown3 (by omega)
                  have hbx3 : Boxed W3 NB 90 v' := ((Mods.of_grown hg3).blk ((Mods.of_below HB2.out []).blk HB.out (by simp)) (by intro h; have := hvl NB (by simpa using h); omega))
                  have hcN3 := hbx3.cell
                  have hfN3 := hbx3.frozen
                  have hblk3 : ∀ b, b = A1 ∨ b = B1 → W3.heap[b]? = W.heap[b]? := by
                    rintro b (rfl | rfl)
                    · exact (hg3.block _ (by omega) (fun e => hv1 e.symm)).trans (HB2.out.block _ hAl)
                    · exact (hg3.block _ (by omega) (fun e => hv2 e.symm)).trans (HB2.out.block _ hBl)
                  have HS3 := Lib.hid (HSX.out W3 hblk3)
                  have HS4 := Lib.hid (show ∀ u, _ from fun u => HSX.out (W3.setCell ⟨NB, 0, none⟩ u) (fun b hb => (Below.heap_setCell _ _ _ _ (by simp; omega)).trans (hblk3 b hb)))
                  have HO3 := Lib.hid hown3
                  have HG3 := Lib.hid hg3
                  clear hown3 hB3 hg3 hat3 hbx3 hblk3
                  refine hK.out _ _ ?_ (fun hHeld2 => ?_)
                  · (try dsimp only)
                    first | assumption | exact HS1.out | exact HS2.out | exact HS2a.out _ | exact HS3.out | exact HS4.out _
                  clear hK K hHeld
                  have hHeld := hHeld2
                  clear hHeld2
                  try simp only [Act.put, List.setIfInBounds_toArray, List.set_cons_zero, List.set_cons_succ]
                  refine wpAnyH_ready (rs := [15]) (by kernel_rfl) (by simp) ?_
                  refine AllReadyH.cons (o := _) (by simp only [List.getElem?_toArray, List.getElem?_cons_succ, List.getElem?_cons_zero]; rfl) (fun K hK => ?_) ?_
                  · go_simp
                    refine hK.out _ _ ?_ (fun hHeld2 => ?_)
                    · (try dsimp only)
                      first | assumption | exact HS1.out | exact HS2.out | exact HS2a.out _ | exact HS3.out | exact HS4.out _
                    clear hK K hHeld
                    have hHeld := hHeld2
                    clear hHeld2
                    try simp only [Act.put, List.setIfInBounds_toArray, List.set_cons_zero, List.set_cons_succ]
                    refine wpAnyH_done (by kernel_rfl) ?_ _
                    exact range_end (by omega) hlo hglt HB.out HO.out HMA.out HMO.out HB2.out HO2.out hFx.out HO3.out HG3.out rfl
                  exact AllReadyH.nil
                exact AllReadyH.nil
              exact AllReadyH.nil
            refine AllReadyH.cons (o := _) (by simp only [List.getElem?_toArray, List.getElem?_cons_succ, List.getElem?_cons_zero]; rfl) (fun K hK => ?_) ?_
            · go_simp
              refine hK.out _ _ ?_ (fun hHeld2 => ?_)
              · (try dsimp only)
                first | assumption | exact HS1.out | exact HS2.out | exact HS2a.out _ | exact HS3.out | exact HS4.out _
              clear hK K hHeld
              have hHeld := hHeld2
              clear hHeld2
              try simp only [Act.put, List.setIfInBounds_toArray, List.set_cons_zero, List.set_cons_succ]
              refine wpAnyH_ready (rs := [0]) (by kernel_rfl) (by simp) ?_
              refine AllReadyH.cons (o := _) (by simp only [List.getElem?_toArray, List.getElem?_cons_zero]; rfl) (fun K hK => ?_) ?_
              · go_simp
                refine hK.out _ _ ?_ (fun hHeld2 => ?_)
                · (try dsimp only)
                  first | assumption | exact HS1.out | exact HS2.out | exact HS2a.out _ | exact HS3.out | exact HS4.out _
                clear hK K hHeld
                have hHeld := hHeld2
                clear hHeld2
                try simp only [Act.put, List.setIfInBounds_toArray, List.set_cons_zero, List.set_cons_succ]
                refine wpAnyH_ready (rs := [14]) (by kernel_rfl) (by simp) ?_
                refine AllReadyH.cons (o := _) (by simp only [List.getElem?_toArray, List.getElem?_cons_succ, List.getElem?_cons_zero]; rfl) (fun K hK => ?_) ?_
                · refine step_append_cells (w0 := W2) (W := W2) W0.heap.size (by rfl) _ _ 90 93 (.agg #[.int .i64 0, .slice none 0 0]) 2 32 rfl Try.underlying90 info_parcel rfl (by decide) (by decide) v' ps.length (pcs ps) [.int .i64 (p1 + q1), .slice (some ⟨g2, 0, none⟩) (pn + qn) c2] rfl rfl rfl (by simp; exact ⟨rfl, rfl⟩) (pw_own_below HO.out HB2.out) (Below.refl _ _) (by omega) (by omega) ?_
                  intro v3 W3 hown3 hB3 hg3 hat3
                  obtain ⟨g3, c3, rfl, hgb3⟩ := own_someQ hown3 (by omega)
                  have hbx3 : Boxed W3 NB 90 v' := ((Mods.of_grown hg3).blk ((Mods.of_below HB2.out []).blk HB.out (by simp)) (by intro h; have := hvl NB (by simpa using h); omega))
                  have hcN3 := hbx3.cell
                  have hfN3 := hbx3.frozen
                  have hblk3 : ∀ b, b = A1 ∨ b = B1 → W3.heap[b]? = W.heap[b]? := by
                    rintro b (rfl | rfl)
                    · exact (hg3.block _ (by omega) (fun e => hv1 e.symm)).trans (HB2.out.block _ hAl)
                    · exact (hg3.block _ (by omega) (fun e => hv2 e.symm)).trans (HB2.out.block _ hBl)
                  have HS3 := Lib.hid (HSX.out W3 hblk3)
                  have HS4 := Lib.hid (show ∀ u, _ from fun u => HSX.out (W3.setCell ⟨NB, 0, none⟩ u) (fun b hb => (Below.heap_setCell _ _ _ _ (by simp; omega)).trans (hblk3 b hb)))
                  have HO3 := Lib.hid hown3
                  have HG3 := Lib.hid hg3
                  clear hown3 hB3 hg3 hat3 hbx3 hblk3
                  refine hK.out _ _ ?_ (fun hHeld2 => ?_)
                  · (try dsimp only)
                    first | assumption | exact HS1.out | exact HS2.out | exact HS2a.out _ | exact HS3.out | exact HS4.out _
                  clear hK K hHeld
                  have hHeld := hHeld2
                  clear hHeld2
                  try simp only [Act.put, List.setIfInBounds_toArray, List.set_cons_zero, List.set_cons_succ]
                  refine wpAnyH_ready (rs := [15]) (by kernel_rfl) (by simp) ?_
                  refine AllReadyH.cons (o := _) (by simp only [List.getElem?_toArray, List.getElem?_cons_succ, List.getElem?_cons_zero]; rfl) (fun K hK => ?_) ?_
                  · go_simp
                    refine hK.out _ _ ?_ (fun hHeld2 => ?_)
                    · (try dsimp only)
                      first | assumption | exact HS1.out | exact HS2.out | exact HS2a.out _ | exact HS3.out | exact HS4.out _
                    clear hK K hHeld
                    have hHeld := hHeld2
                    clear hHeld2
                    try simp only [Act.put, List.setIfInBounds_toArray, List.set_cons_zero, List.set_cons_succ]
                    refine wpAnyH_done (by kernel_rfl) ?_ _
                    exact range_end (by omega) hlo hglt HB.out HO.out HMA.out HMO.out HB2.out HO2.out hFx.out HO3.out HG3.out rfl
                  exact AllReadyH.nil
                exact AllReadyH.nil
              exact AllReadyH.nil
            exact AllReadyH.nil
          exact AllReadyH.nil
        exact AllReadyH.nil
      case done =>
        rintro D xs W hD rfl ⟨⟨v, ps, hb, ho, hma⟩, hmo⟩ hDW
        have hpl : ps.length = M / 2 := by rw [hma.1, List.length_map, allP_length, hlen]
        have hpl1 : 1 ≤ ps.length := by omega
        have hpl2 : ps.length ≤ N := by omega
        clear hpl
        obtain ⟨g3, c3, rfl, hg3⟩ := own_someQ ho (by omega)
        have hma2 : Match W w1.heap.size ps (pairUp ql) := by rw [HTM.out, ← allP_join]; exact hma
        have hcN := hb.cell
        have hwr : Mods [] wo W := HM0.out.trans_new hmo (by intro r hr; simp at hr; subst hr; exact .inr (by omega))
        have hw2 : Mods [] w2 W := HMW.out.trans hwr
        have HRc := Lib.hid (HOc.out.reads.mods hw2 (by simp))
        have HRp := Lib.hid (show ReadsQ W g3 ps.length ps from RowQ.reads ho)
        have HMa := Lib.hid ((HMc.out.mods hw2 (by simp)).app hma2)
        have HWR := Lib.hid hwr; have HW2 := Lib.hid hw2; have HDW := Lib.hid hDW
        have HMK := Lib.hid (show Marked W w1.heap.size (D :: Ds) from (HD.out.later (fun k o h _ => hwr.blk h (by simp))).cons (by omega) hDW (fun hm => by have := blk_lt (HD.out.2 D hm).2; omega))
        clear hb ho hma hma2 hmo hwr hw2 hDW
        go_wp2_with fail
        refine (merged_any gc N cc g3 ps.length c3 psc ps W HRc.out HRp.out (by omega) (by omega) (by omega) (by omega)).mono ?_
        rintro e W5 ⟨g5, c5, s5, rfl, hO5, hs5, hf5, hB5⟩
        obtain ⟨qs5, hm5, hu5, hf6⟩ := HMa.out.sorted hs5 hf5
        have hul : Up (pairUp ql) := by rw [HQ.out.1]; exact pairUp_up _ (pm_up qc HUc.out k)
        have hq5 : qs5 = pm qc (k + 1) := by
          rw [pm_succ, ← HQ.out.1]
          exact sorted_unique hu5 (mrg_up qc (pairUp ql) HUc.out hul) (hf6.symm.trans (mrg_feq qc (pairUp ql) HUc.out hul))
        have hcap5 : N + ps.length ≤ c5 ∧ w1.heap.size ≤ g5 := by
          obtain ⟨_, _, _, _, hcap⟩ := hO5.blk
          have := own_base hO5 g5 rfl
          have := HWR.out.size
          exact ⟨hcap, by omega⟩
        have hB5m : Mods [] W W5 := Mods.of_below hB5 []
        have H5 := Lib.hid (show (Marked W5 w1.heap.size (D :: Ds)) ∧ (qs5 = pm qc (k + 1) ∧ qs5.length = N + ps.length) ∧ (ReadsQ W5 g5 (N + ps.length) s5 ∧ Match W5 w1.heap.size s5 qs5) ∧ Mods [] w2 W5 from
          ⟨HMK.out.later (fun k o h _ => hB5m.blk h (by simp)), ⟨hq5, by rw [← hm5.1]; exact RowQ.length hO5⟩, ⟨RowQ.reads hO5, hm5.mods hB5m (by simp)⟩, HW2.out.trans hB5m⟩)
        clear hO5 hs5 hf5 hB5 hm5 hu5 hf6 hul hq5 hB5m
        go_wp2_with fail
        refine ⟨⟨?_, ?_, ?_, ?_, ?_, ?_, ?_, ?_, D :: Ds, k + 1, g5, c5, N + ps.length, s5, qs5, ?eq, by omega, by omega, by omega, hcap5, H5.out.1, H5.out.2.1, H5.out.2.2.1, H5.out.2.2.2⟩, ?meas⟩
        case eq => rfl
        case meas => simp [intOf]; omega
      case stop => exact fun _ _ _ _ _ _ h _ => h.elim
    · have hkm : ¬ (k : Int) < (mk : Int) - 1 := by omega
      have hkm2 : k + 1 = mk := by omega
      have hroom : 2 * N ≤ M + 2 := by
        have h1 : (N : Int) ≤ 2 ^ mk := by
          have := HOK.out
          unfold okS at this
          simp at this
          rw [← HN.out]
          exact this.2
        have h2 : N ≤ 2 * 2 ^ k := by
          rw [← hkm2, Int.pow_succ] at h1
          have : (2 : Int) ^ k = ((2 ^ k : Nat) : Int) := by norm_cast
          omega
        have := pm_room qc k 2 (by rw [HQN.out]; exact h2)
        rw [HQN.out, ← HQ.out.1, HQ.out.2] at this
        exact this
      have hr1 : (0 : Int) ≤ 2 * (N : Int) - 2 := by omega
      have hr2 : 2 * (N : Int) - 2 ≤ (cl : Int) := by omega
      have hr3 : (2 * (N : Int) - 2).toNat = 2 * N - 2 := by omega
      clear hk hlt
      go_wp2_with fail
      have hrow0 : wo.ownsRow w.heap.size 3 1 (.slice (some ⟨w.heap.size, 0, none⟩) n n) n (nums .i64 (lensS n (((ql.take 0).flatMap Pk.syms)))) := by
        have h := World.ownsRow.kept HO1.out (grown_of_below (HB12.out.trans ⟨HMW.out.os, HMW.out.tape, HMW.out.output, HMW.out.size, fun k hk => HMW.out.block k (Nat.lt_of_lt_of_le hk HB12.out.size) (by simp)⟩) none) (by simp [Value.ownBlock])
        have e : lensS n (((ql.take 0).flatMap Pk.syms)) = List.replicate n 0 := by simp [lensS, List.map_const']
        rw [e]; exact h
      have HR0 := Lib.hid hrow0
      have hFq : ∀ q ∈ ql, Fine n k q := by rw [HQ.out.1]; exact pm_fine qc HFI.out k
      have HFq := Lib.hid hFq
      have hz1 := HZ1.out
      have hpsl : psl.length = M := HRM.out.1.1
      have HPSL := Lib.hid hpsl
      clear hrow0 hFq hpsl
      go_loopw [79] (fun i wr => ∃ j : Nat, j ≤ 2 * N - 2 ∧ i = .int .i64 j ∧ Hid (((ql.take j).flatMap Pk.syms).length ≤ 16384 * j) ∧ Hid (wr.ownsRow w.heap.size 3 1 (.slice (some ⟨w.heap.size, 0, none⟩) n n) n (nums .i64 (lensS n ((ql.take j).flatMap Pk.syms)))) ∧ Hid (Mods [w.heap.size] wo wr)) (fun i _ => 2 * N - 2 - (intOf i).toNat)
      case atStart => exact ⟨0, Nat.zero_le _, rfl, by simp [Hid], HR0.out, Mods.refl _ _⟩
      case round =>
        obtain ⟨j, hj, rfl, HLe, HO, HM⟩ := hrel
        by_cases hlt : j < 2 * N - 2
        · obtain ⟨p, hp⟩ : ∃ p, psl[j]? = some p := ⟨_, List.getElem?_eq_getElem (by have := HPSL.out; omega)⟩
          obtain ⟨q, hq⟩ : ∃ q, ql[j]? = some q := ⟨_, List.getElem?_eq_getElem (by have := HQ.out.2; omega)⟩
          obtain ⟨hsum, hsy0⟩ := HRM.out.2.2 j p q hp hq
          have hfine := HFq.out q (List.mem_of_getElem? hq)
          have hsy := hsy0.mods HM.out (by intro t ht; simp at ht; subst ht; exact .inl (by omega))
          have hRd := HRM.out.1.mods HM.out (by simp; omega)
          have c1 := hRd.2 _ _ (pcs_get psl j p hp).1
          have c2 := hRd.2 _ _ (pcs_get psl j p hp).2
          have hnext : (ql.take (j + 1)).flatMap Pk.syms = (ql.take j).flatMap Pk.syms ++ q.syms := by rw [List.take_add_one, hq]; simp
          have hpw : (2 : Nat) ^ k ≤ 16384 := by
            have : (2 : Nat) ^ k ≤ 2 ^ 14 := Nat.pow_le_pow_right (by decide) (by omega)
            omega
          have hpn : p.n = q.syms.length := hsy.1
          have hpn1 : 1 ≤ p.n ∧ p.n ≤ 16384 := by have := hfine.some_; have := hfine.few; omega
          have HLT := Lib.hid hfine.lt
          have HNX := Lib.hid hnext
          have HPN := Lib.hid hpn
          have HSY := Lib.hid hsy
          clear hsum hsy0 hfine hsy hRd hnext hpn hpw hq hp
          generalize (ql.take j).flatMap Pk.syms = LL at *
          generalize q.syms = xs at *
          obtain ⟨p1, pA, pn, pc⟩ := p
          obtain ⟨ad, rfl⟩ : ∃ ad, pA = some ad := by obtain ⟨_, ad, _, h, _⟩ := HSY.out; exact ⟨ad, h⟩
          dsimp only at c1 c2 hpn1 HPN
          have hj1 : (j : Int) < 2 * (N : Int) - 2 := by omega
          go_wp2_with fail
          have HMb := Lib.hid (HM.out.alloc (.cells #[.int .i64 p1, .slice (some ad) pn pc] 93))
          have HOb := Lib.hid (World.ownsRow.alloc HO.out (.cells #[.int .i64 p1, .slice (some ad) pn pc] 93))
          have HSb := Lib.hid (HSY.out.mods ((Mods.refl [] wr).alloc (.cells #[.int .i64 p1, .slice (some ad) pn pc] 93)) (by simp))
          clear c1 c2 HSY
          generalize wr.alloc (.cells #[.int .i64 p1, .slice (some ad) pn pc] 93) = wb at *
          go_loopw [86] (fun i wi => ∃ t : Nat, t ≤ pn ∧ i = .int .i64 t ∧ Hid (wi.ownsRow w.heap.size 3 1 (.slice (some ⟨w.heap.size, 0, none⟩) n n) n (nums .i64 (lensS n (LL ++ xs.take t)))) ∧ Hid (Mods [w.heap.size] wb wi)) (fun i _ => pn - (intOf i).toNat)
          case atStart => exact ⟨0, Nat.zero_le _, rfl, by show World.ownsRow _ _ _ _ _ _ _; rw [List.take_zero, List.append_nil]; exact HOb.out, Mods.refl _ _⟩
          case round =>
            obtain ⟨t, ht, rfl, HO2, HM2⟩ := hrel
            by_cases hlt2 : t < pn
            · obtain ⟨x, hx⟩ : ∃ x, xs[t]? = some x := ⟨_, List.getElem?_eq_getElem (by have := HPN.out; omega)⟩
              have hxn : x < n := HLT.out x (List.mem_of_getElem? hx)
              obtain ⟨_, ad', _, ha, _, _, hxc⟩ := HSb.out.mods HM2.out (by intro t ht; simp at ht; subst ht; exact .inl (by omega))
              cases ha
              have hcx := hxc t x hx
              obtain ⟨ad2, ha2, hc2⟩ := (own_reads' HO2.out).2.2 (by omega)
              cases ha2
              have hcl := hc2 x hxn
              rw [add_plain] at hcl
              have hst := fun v => (World.ownsRow.stored HO2.out x (.int .i64 v)).1
              have hfz : wr.frozen? ⟨w.heap.size, x, none⟩ = false := by
                rcases HO2.out.2 with ⟨h, _⟩ | ⟨g, cap, cur, h1, _, hh, _⟩
                · cases h
                · cases h1; exact free_blk hh _
              have hsn : lensS n (LL ++ xs.take (t + 1)) = (lensS n (LL ++ xs.take t)).set x (ln (lensS n (LL ++ xs.take t)) x + 1) := by
                rw [lensS_snoc _ _ _ hxn, List.append_assoc]
                congr 2
                rw [List.take_add_one, hx]; rfl
              rw [lensS_ln n _ x hxn] at hsn
              have hcv : (lensS n (LL ++ xs.take t)).getD x 0 = (((LL ++ xs.take t).count x : Nat) : Int) := by simp [lensS, hxn, List.getD_eq_getElem?_getD]
              rw [hcv] at hcl
              have hle : (LL ++ xs.take t).count x ≤ 268435456 := by
                have h1 : (LL ++ xs.take t).count x ≤ (LL ++ xs.take t).length := List.count_le_length
                have h2 : LL.length ≤ 16384 * j := HLe.out
                rw [List.length_append, List.length_take] at h1
                omega
              generalize (LL ++ xs.take t).count x = v at *
              have hO3 := hst ((v : Int) + 1)
              rw [show (nums .i64 (lensS n (LL ++ xs.take t))).set x (.int .i64 ((v : Int) + 1)) = nums .i64 (lensS n (LL ++ xs.take (t + 1))) from by rw [hsn]; simp [nums, List.map_set]] at hO3
              have HO3 := Lib.hid hO3
              have hwv : IntKind.i64.wrap ((v : Int) + 1) = (v : Int) + 1 := by rw [IntWalk.i64_in _ (by omega)]
              have ht1 : (t : Int) < (pn : Int) := by omega
              have hxi : (x : Int) < (n : Int) := by omega
              clear hO3 hst hsn hcv hxc hc2 hx
              go_wp2_with fail
              go_roundw
              case rel => exact ⟨t + 1, by omega, by go_num, HO3.out, HM2.out.setCell (by simp) _⟩
              case measure => simp [intOf]; omega
            · have htt : t = pn := by omega
              have hge : ¬ (t : Int) < (pn : Int) := by omega
              have HO4 := Lib.hid (show wr.ownsRow w.heap.size 3 1 (.slice (some ⟨w.heap.size, 0, none⟩) n n) n (nums .i64 (lensS n ((ql.take (j + 1)).flatMap Pk.syms))) from by
                have h := HO2.out
                rw [List.take_of_length_le (by have := HPN.out; omega)] at h
                rw [HNX.out]; exact h)
              have HL4 := Lib.hid (show ((ql.take (j + 1)).flatMap Pk.syms).length ≤ 16384 * (j + 1) from by
                have h1 : LL.length ≤ 16384 * j := HLe.out
                have h2 := HPN.out
                rw [HNX.out, List.length_append]; omega)
              clear htt
              go_wp2_with fail
              go_roundw
              case rel => exact ⟨j + 1, by omega, by go_num, HL4.out, HO4.out, HMb.out.trans HM2.out⟩
              case measure => simp [intOf]; omega
        · have hjj : j = 2 * N - 2 := by omega
          go_wp2_with fail
          obtain ⟨cur, hcur⟩ : ∃ cur, wo.heap[w.heap.size]? = some (.cells cur 3 (0, 0)) := by
            rcases HR0.out.2 with ⟨h, _⟩ | ⟨g, cap, cur, h1, _, hh, _⟩
            · cases h
            · cases h1; exact ⟨cur, hh⟩
          refine leaves_marks w1.heap.size _ Ds wr (HD.out.later (fun x o h ho => HM.out.blk h ?_)) (fun w' hS => ⟨results_tmp2 rfl _ _ _, _, qc, rfl, HUc.out, HFc.out, ?_, ?_⟩)
          · intro hx
            rw [List.mem_singleton] at hx
            rw [hx, hcur] at h; cases h; cases ho
          · have h := own_shut HO.out hS
            rw [hjj, HQ.out.1] at h
            rw [HN.out, show (mk : Int).toNat - 1 = k from by omega]
            exact h
          · exact (Below.then_mods (Below.then_mods HB2.out HB2.out.size HMW.out (by simp)) (Nat.le_trans HB2.out.size HMW.out.size) HM.out (by simp)).trans (hS.1.mono (by omega))
end Go.Proofs.Ytbljoihnjhllhaa
