/- The law PlanStacks. -/
import Derived.Test.YtbnelomknjnplaaPlnD
import Derived.BigQuiet
namespace Go.Proofs.Ytbnelomknjnplaa
open Go.RowKit
open Go.Proofs.YtbnelomknjnplaaW.PrintWords

theorem map_order (f : Nat → SL) {i : Nat} (hi : i < 16) : (Stk.order.map f)[i]? = some (f (Stk.order.getD i 0)) := by
  have : i < Stk.order.length := hi
  rw [List.getElem?_map, List.getElem?_eq_getElem this, List.getD_eq_getElem?_getD, List.getElem?_eq_getElem this]; rfl
theorem order_lt : ∀ i : Fin 16, Stk.order.getD i.val 0 < 16 := by decide
set_option maxRecDepth 100000 in
set_option maxHeartbeats 4000000 in
theorem law_PlanStacks (a b : Int) (w : World) (ha : 0 ≤ a ∧ a < 256) (hb : 0 ≤ b ∧ b < 256) :
    Calls Try.prog 4 #[.int .u8 a, .int .u8 b] w fun e w' => e = .returned (.bool true) ∧ Below w.heap.size w w' := by
  obtain ⟨i, hi⟩ : ∃ i : Nat, a % 16 = i := ⟨(a % 16).toNat, by omega⟩
  obtain ⟨k, hk⟩ : ∃ k : Nat, b % 16 = k := ⟨(b % 16).toNat, by omega⟩
  have hi16 : i < 16 := by omega
  have hk16 : k < 16 := by omega
  have HI := Lib.hid hi; have HK := Lib.hid hk
  clear hi hk
  go_enter Try.func4, Try.ntmps4
  go_wp2_with fail
  refine (stacks_any w).mono ?_
  rintro e w1 ⟨hB1, g, cap, f, rfl, hR, hG⟩
  have HB1 := Lib.hid hB1; have HR1 := Lib.hid hR; have HG1 := Lib.hid hG
  have hz1 := hB1.size
  clear hB1 hR hG
  go_wp2_with fail
  refine (answers20 w1).mono ?_
  rintro e w2 ⟨rfl, hB2⟩
  have HR2 := Lib.hid (show RowL w2 w.heap.size g 16 cap (Stk.order.map f) from pw_own_below HR1.out hB2)
  obtain ⟨x, hx⟩ : ∃ x, f (Stk.order.getD i 0) = x := ⟨_, rfl⟩
  obtain ⟨y, hy⟩ : ∃ y, f (Stk.order.getD k 0) = y := ⟨_, rfl⟩
  have gx := HG1.out _ (order_lt ⟨i, hi16⟩)
  have gy := HG1.out _ (order_lt ⟨k, hk16⟩)
  have gx : (f (Stk.order.getD i 0)).s = Stk.order.getD i 0 ∧ SL.Good w1 g (f (Stk.order.getD i 0)) := gx
  have gy : (f (Stk.order.getD k 0)).s = Stk.order.getD k 0 ∧ SL.Good w1 g (f (Stk.order.getD k 0)) := gy
  rw [hx] at gx; rw [hy] at gy
  have rx := gx.2.2.1.below hB2
  have ry := gy.2.2.1.below hB2
  have enx : x.n = (Stk.at_ i).length := by unfold SL.n Stk.at_; rw [gx.1]
  have eny : y.n = (Stk.at_ k).length := by unfold SL.n Stk.at_; rw [gy.1]
  rw [gx.1, show Stk.setL (Stk.order.getD i 0) = Stk.at_ i from rfl] at rx
  rw [gy.1, show Stk.setL (Stk.order.getD k 0) = Stk.at_ k from rfl] at ry
  obtain ⟨c1, _⟩ := HR2.out.at i x (by rw [map_order f hi16, hx])
  obtain ⟨c2, _⟩ := HR2.out.at k y (by rw [map_order f hk16, hy])
  unfold SL.val at c1 c2
  have HB2 := Lib.hid (below_then HB1.out hz1 hB2)
  generalize x.A = xA at *
  generalize x.c = xc at *
  generalize y.A = yA at *
  generalize y.c = yc at *
  have HRX := Lib.hid rx; have HRY := Lib.hid ry
  obtain ⟨xn, hxn⟩ : ∃ xn, x.n = xn := ⟨_, rfl⟩
  obtain ⟨yn, hyn⟩ : ∃ yn, y.n = yn := ⟨_, rfl⟩
  rw [hxn] at HRX c1 enx
  rw [hyn] at HRY c2 eny
  clear gx gy rx ry hx hy hB2 HG1 HR2 hxn hyn
  have k1 : (0 : Int) ≤ (i : Int) := by omega
  have k2 : (i : Int) < 16 := by omega
  have k3 : (0 : Int) ≤ (k : Int) := by omega
  have k4 : (k : Int) < 16 := by omega
  go_upto_region 5 with fail
  rw [HI.out, HK.out]
  clear HI HK
  go_quiet (fail)
  have HBN := Lib.hid (show Below w.heap.size w (w2.drewN nq) from below_then HB2.out (by have := HB2.out.size; omega) ⟨rfl, rfl, rfl, Nat.le_of_eq (by rw [heap_drewN]), fun _ _ => by rw [heap_drewN]⟩)
  have HRX3 := Lib.hid (show ReadsInt (w2.drewN nq) .i64 xA xn (Stk.at_ i) from HRX.out.below ⟨rfl, rfl, rfl, Nat.le_of_eq (by rw [heap_drewN]), fun _ _ => by rw [heap_drewN]⟩)
  have HRY3 := Lib.hid (show ReadsInt (w2.drewN nq) .i64 yA yn (Stk.at_ k) from HRY.out.below ⟨rfl, rfl, rfl, Nat.le_of_eq (by rw [heap_drewN]), fun _ _ => by rw [heap_drewN]⟩)
  have hx4 : xn ≤ 4 := by rw [enx]; exact Stk.at_len ⟨i, hi16⟩
  have hy4 : yn ≤ 4 := by rw [eny]; exact Stk.at_len ⟨k, hk16⟩
  clear c1 c2 HRX HRY HB2
  generalize w2.drewN nq = w3 at *
  go_wp2_with fail
  go_loopw [10] (fun nv wr => ∃ n : Nat, n ≤ xn ∧ nv = .int .i64 n ∧ Hid (∃ q, wr = w3.drewN q)) (fun nv _ => xn - (intOf nv).toNat)
  case atStart => exact ⟨0, Nat.zero_le _, rfl, Lib.hid ⟨0, rfl⟩⟩
  case round =>
    obtain ⟨n, hn, rfl, HQ⟩ := hrel
    by_cases hlt : n < xn
    · obtain ⟨ad, hA, hcell⟩ := HRX3.out.2.2 (by omega)
      subst hA
      have cx : wr.cell? (ad.add n) = some (.int .i64 ((Stk.at_ i).getD n 0)) := by obtain ⟨q, e⟩ := HQ.out; rw [e]; simpa using hcell n hlt
      have hup := Stk.at_up ⟨i, hi16⟩ ⟨n, by omega⟩ (by show n < (Stk.at_ i).length; omega)
      obtain ⟨u1, u2, u3⟩ := hup
      have u1 : 0 ≤ (Stk.at_ i).getD n 0 := u1
      have u2 : (Stk.at_ i).getD n 0 ≤ 3 := u2
      have u3 : 0 < n → (Stk.at_ i).getD (n - 1) 0 < (Stk.at_ i).getD n 0 := u3
      have q1 : (0 : Int) ≤ (n : Int) := by omega
      have q2 : (n : Int) < (xn : Int) := by omega
      obtain ⟨v, hv⟩ : ∃ v, (Stk.at_ i).getD n 0 = v := ⟨_, rfl⟩
      rw [hv] at cx u1 u2 u3
      have d1 : decide (v < 0) = false := decide_eq_false (by omega)
      have d2 : decide (3 < v) = false := decide_eq_false (by omega)
      by_cases hn0 : 0 < n
      · have d3 : decide ((0 : Int) < (n : Int)) = true := decide_eq_true (by omega)
        have cx' : wr.cell? (ad.add (n - 1)) = some (.int .i64 ((Stk.at_ i).getD (n - 1) 0)) := by obtain ⟨q, e⟩ := HQ.out; rw [e]; simpa using hcell (n - 1) (by omega)
        have u4 := u3 hn0
        obtain ⟨v1, hv1⟩ : ∃ v1, (Stk.at_ i).getD (n - 1) 0 = v1 := ⟨_, rfl⟩
        rw [hv1] at cx' u4
        have d4 : decide (v ≤ v1) = false := decide_eq_false (by omega)
        obtain ⟨q, hq⟩ : ∃ q, n - 1 = q := ⟨_, rfl⟩
        rw [hq] at cx'
        have e3 : IntKind.i64.wrap ((n : Int) - 1) = (q : Int) := by rw [IntWalk.i64_in _ (by omega)]; omega
        have e5 : (0 : Int) ≤ (q : Int) := by omega
        have e6 : (q : Int) < (xn : Int) := by omega
        clear hq hv hv1 u3 hcell
        go_upto_region 9 with fail
        go_quiet (fail)
        go_wp2_with fail
        go_roundw
        case rel => exact ⟨n + 1, by omega, by go_num, by obtain ⟨q, e⟩ := HQ.out; exact Lib.hid ⟨q + nq, by rw [e, World.drewN_drewN]⟩⟩
        case measure => simp [intOf]; omega
      · have d3 : decide ((0 : Int) < (n : Int)) = false := decide_eq_false (by omega)
        clear hv u3 hcell
        go_upto_region 9 with fail
        go_quiet (fail)
        go_wp2_with fail
        go_roundw
        case rel => exact ⟨n + 1, by omega, by go_num, by obtain ⟨q, e⟩ := HQ.out; exact Lib.hid ⟨q + nq, by rw [e, World.drewN_drewN]⟩⟩
        case measure => simp [intOf]; omega
    · obtain rfl : n = xn := by omega
      have HBr := Lib.hid (show Below w.heap.size w wr from by obtain ⟨q, e⟩ := HQ.out; rw [e]; exact below_then HBN.out (by have := HBN.out.size; omega) ⟨rfl, rfl, rfl, Nat.le_of_eq (by rw [heap_drewN]), fun _ _ => by rw [heap_drewN]⟩)
      have hd : decide ((n : Int) < (n : Int)) = false := by simp
      by_cases hik : k ≤ i
      · have d5 : decide ((k : Int) ≤ (i : Int)) = true := decide_eq_true (by omega)
        go_wp2_with fail
        go_ret
        exact ⟨rfl, HBr.out⟩
      have d5 : decide ((k : Int) ≤ (i : Int)) = false := decide_eq_false (by omega)
      by_cases hne : n = yn
      · subst hne
        obtain ⟨m, h1, h2, h3⟩ := Stk.at_first ⟨i, hi16⟩ ⟨k, hk16⟩ (by show i < k; omega) (by show (Stk.at_ i).length = (Stk.at_ k).length; omega)
        obtain ⟨m, hm4⟩ := m
        have h1 : m < (Stk.at_ i).length := h1
        have h2 : (Stk.at_ i).getD m 0 < (Stk.at_ k).getD m 0 := h2
        have h3 : ∀ j, j < m → (Stk.at_ i).getD j 0 = (Stk.at_ k).getD j 0 := fun j hj => h3 ⟨j, by omega⟩ hj
        have HFI := Lib.hid h3
        have HRXr := Lib.hid (show ReadsInt wr .i64 xA n (Stk.at_ i) from by obtain ⟨q, e⟩ := HQ.out; rw [e]; exact HRX3.out.below ⟨rfl, rfl, rfl, Nat.le_of_eq (by rw [heap_drewN]), fun _ _ => by rw [heap_drewN]⟩)
        have HRYr := Lib.hid (show ReadsInt wr .i64 yA n (Stk.at_ k) from by obtain ⟨q, e⟩ := HQ.out; rw [e]; exact HRY3.out.below ⟨rfl, rfl, rfl, Nat.le_of_eq (by rw [heap_drewN]), fun _ _ => by rw [heap_drewN]⟩)
        clear h3 HRX3 HRY3 HQ
        obtain ⟨w4, hw4⟩ : ∃ w4, w4 = wr := ⟨wr, rfl⟩
        subst hw4
        have hm : m < n := by omega
        go_wp2_with fail
        go_loopw [11] (fun nv wr => ∃ j : Nat, j ≤ m ∧ nv = .int .i64 j ∧ Hid (∃ q, wr = w4.drewN q)) (fun nv _ => n - (intOf nv).toNat)
        case atStart => exact ⟨0, Nat.zero_le _, rfl, Lib.hid ⟨0, rfl⟩⟩
        case round =>
          obtain ⟨j, hj, rfl, HQ⟩ := hrel
          obtain ⟨ad, hA, hcell⟩ := HRXr.out.2.2 (by omega)
          subst hA
          obtain ⟨bd, hB, hcell'⟩ := HRYr.out.2.2 (by omega)
          subst hB
          have hjn : j < n := by omega
          have cx : wr.cell? (ad.add j) = some (.int .i64 ((Stk.at_ i).getD j 0)) := by obtain ⟨q, e⟩ := HQ.out; rw [e]; simpa using hcell j hjn
          have cy : wr.cell? (bd.add j) = some (.int .i64 ((Stk.at_ k).getD j 0)) := by obtain ⟨q, e⟩ := HQ.out; rw [e]; simpa using hcell' j hjn
          have q1 : (0 : Int) ≤ (j : Int) := by omega
          have q2 : (j : Int) < (n : Int) := by omega
          by_cases hjm : j = m
          · subst hjm
            obtain ⟨v, hv⟩ : ∃ v, (Stk.at_ i).getD j 0 = v := ⟨_, rfl⟩
            obtain ⟨u, hu⟩ : ∃ u, (Stk.at_ k).getD j 0 = u := ⟨_, rfl⟩
            rw [hv, hu] at h2
            rw [hv] at cx; rw [hu] at cy
            have d6 : (v == u) = false := by simp; omega
            have d7 : decide (v < u) = true := decide_eq_true h2
            have HBq := Lib.hid (show ∀ q, Below w.heap.size w (wr.drewN q) from fun q => by obtain ⟨q', e⟩ := HQ.out; rw [e, World.drewN_drewN]; exact below_then HBr.out (by have := HBr.out.size; omega) ⟨rfl, rfl, rfl, Nat.le_of_eq (by rw [heap_drewN]), fun _ _ => by rw [heap_drewN]⟩)
            clear hv hu hcell hcell'
            go_upto_region 18 with fail
            go_quiet (fail)
            obtain ⟨n1, hn1⟩ : ∃ n1, n1 = nq := ⟨nq, rfl⟩
            subst hn1
            have cx2 : (wr.drewN n1).cell? (ad.add j) = some (.int .i64 v) := by simpa using cx
            have cy2 : (wr.drewN n1).cell? (bd.add j) = some (.int .i64 u) := by simpa using cy
            have HBq2 := Lib.hid (show ∀ q, Below w.heap.size w ((wr.drewN n1).drewN q) from fun q => by rw [World.drewN_drewN]; exact HBq.out _)
            generalize wr.drewN n1 = w5 at *
            go_upto_region 19 with fail
            go_quiet (fail)
            go_wp2_with fail
            go_ret
            exact ⟨rfl, HBq2.out _⟩
          · have heq := HFI.out j (by omega)
            rw [← heq] at cy
            generalize (Stk.at_ i).getD j 0 = v at *
            clear hcell hcell'
            go_upto_region 18 with fail
            go_quiet (fail)
            go_wp2_with fail
            go_roundw
            case rel => exact ⟨j + 1, by omega, by go_num, by obtain ⟨q, e⟩ := HQ.out; exact Lib.hid ⟨q + nq, by rw [e, World.drewN_drewN]⟩⟩
            case measure => simp [intOf]; omega
      · have hlt := Stk.at_less ⟨i, hi16⟩ ⟨k, hk16⟩ (by show i < k; omega) (by show (Stk.at_ i).length ≠ (Stk.at_ k).length; omega)
        have hlt : n < yn := by have : (Stk.at_ i).length < (Stk.at_ k).length := hlt; omega
        have d6 : ((n : Int) == (yn : Int)) = false := by simp; omega
        have d7 : decide ((n : Int) < (yn : Int)) = true := decide_eq_true (by omega)
        go_wp2_with fail
        go_ret
        exact ⟨rfl, HBr.out⟩
end Go.Proofs.Ytbnelomknjnplaa
