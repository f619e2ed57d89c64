/- plan.Stacks. -/
import Derived.Test.YtbnelomknjnplaaStk2
import Derived.Test.YtbnelomknjnplaaTab2P
namespace Go.Proofs.Ytbnelomknjnplaa
open Go.RowKit
open Go.Proofs.YtbnelomknjnplaaW.PrintWords
open Srt

set_option maxHeartbeats 1000000 in
theorem stable16 (base b cap : Nat) (xs : List SL) (w : World) (hg : ∀ x ∈ xs, SL.Good w b x) (H : RowL w base b 16 cap xs) :
    Calls Try.prog 14 #[.slice (some ⟨b, 0, none⟩) 16 cap, setsV] w
      fun e w' => e = .returned (.tuple #[]) ∧ (∃ s', Sorted keyL s' ∧ FEq keyL xs s' ∧ RowL w' base b 16 cap s') ∧ Mods [b] w w' := by
  have hlen := H.length
  have HR := Lib.hid H; have HG := Lib.hid hg; have HL := Lib.hid hlen
  clear H hg hlen
  go_enter Try.func14, Try.ntmps14
  go_wp2_with fail
  go_enter Try.func27, Try.ntmps27
  go_wp2_with fail
  go_loopw [7, 8] (fun x y wr => x = .int .i64 0 ∧ y = .int .i64 20 ∧ wr = w) (fun _ _ _ => 0)
  case atStart => exact ⟨rfl, rfl, rfl⟩
  case round =>
    obtain ⟨rfl, rfl, rfl⟩ := hrel
    go_wp2_with fail
    refine (insertionL base b 16 cap [] xs [] wr 0 16 rfl (by rw [HL.out]; rfl) (by omega) HG.out (by simpa using HR.out)).mono ?_
    rintro e w2 ⟨rfl, ⟨s', hs1, hs2, hR⟩, hM⟩
    have HS := Lib.hid (And.intro hs1 hs2); have HR2 := Lib.hid hR; have HM2 := Lib.hid hM
    clear hs1 hs2 hR hM
    go_wp2_with fail
    go_loopw [6] (fun x wr => x = .int .i64 20 ∧ wr = w2) (fun _ _ => 0)
    case atStart => exact ⟨rfl, rfl⟩
    case round =>
      obtain ⟨rfl, rfl⟩ := hrel
      go_wp2_with fail
      go_end0
      go_wp2_with fail
      go_end0
      exact ⟨rfl, ⟨s', HS.out.1, HS.out.2, by simpa using HR2.out⟩, HM2.out⟩

/-- What stands of a set's list till a number. -/
def setK (s k : Nat) : List Int := ((List.range k).filter fun j => decide (s / 2 ^ j % 2 = 1)).map fun (j : Nat) => (j : Int)
theorem setK_all (s : Nat) : setK s 4 = Stk.setL s := rfl
theorem setK_in {s k : Nat} (h : s / 2 ^ k % 2 = 1) : setK s (k + 1) = setK s k ++ [(k : Int)] := by
  unfold setK; rw [List.range_succ, List.filter_append, List.map_append, List.filter_cons_of_pos (by simp [h])]; rfl
theorem setK_out {s k : Nat} (h : ¬ s / 2 ^ k % 2 = 1) : setK s (k + 1) = setK s k := by
  unfold setK; rw [List.range_succ, List.filter_append, List.map_append, List.filter_cons_of_neg (by simp [h])]; simp
theorem setK_len (s k : Nat) : (setK s k).length ≤ k := by
  unfold setK; rw [List.length_map]; exact Nat.le_trans (List.length_filter_le _ _) (by simp)
theorem bit_of : ∀ s : Fin 16, ∀ k : Fin 4, bits .and .i64 ((s.val / 2 ^ k.val : Nat) : Int) 1 = ((s.val / 2 ^ k.val % 2 : Nat) : Int) := by decide +kernel
/-- What a set's list must be, while the row of lists grows. -/
def SL.GoodV (w : World) (v : Value) (e : SL) : Prop := e.s < 16 ∧ ReadsInt w .i64 e.A e.n (Stk.setL e.s) ∧ ∀ ad, e.A = some ad → v.ownBlock ≠ some ad.block ∧ ad.block < w.heap.size
theorem SL.GoodV.below {w w' : World} {v : Value} {e : SL} (h : e.GoodV w v) (hb : Below w.heap.size w w') : e.GoodV w' v :=
  ⟨h.1, h.2.1.below hb, fun ad ha => ⟨(h.2.2 ad ha).1, Nat.lt_of_lt_of_le (h.2.2 ad ha).2 hb.size⟩⟩
theorem SL.GoodV.grown {w w' : World} {v v' : Value} {e : SL} (h : e.GoodV w v) (hg : w.grownBy w' v.ownBlock) (hv : v'.ownBlock = v.ownBlock ∨ ∃ b, v'.ownBlock = some b ∧ w.heap.size ≤ b) : e.GoodV w' v' := by
  have hm : Mods v.ownBlock.toList w w' := Mods.grown (Mods.refl _ _) hg (fun k hk => .inl (by simp [hk]))
  refine ⟨h.1, ReadsInt.mods h.2.1 hm (fun ad ha hc => ?_), fun ad ha => ⟨fun hc => ?_, Nat.lt_of_lt_of_le (h.2.2 ad ha).2 hm.size⟩⟩
  · exact (h.2.2 ad ha).1 (by simpa using hc)
  · rcases hv with hv | ⟨b, hv, hb⟩
    · rw [hv] at hc; exact (h.2.2 ad ha).1 hc
    · rw [hv] at hc
      have := (h.2.2 ad ha).2
      cases hc; omega
theorem info_list : (Try.prog.info? 28).map (fun i => (i.zero, i.size, i.bytes)) = some (some (.slice none 0 0), 1, 24) := by kernel_rfl
theorem reads_oneI {W : World} {e : TypeId} {g : Nat} {p : Int} (h : W.heap[g]? = some (.cells #[.int .i64 p] e (0, 0))) : ReadsInt W .i64 (some ⟨g, 0, none⟩) 1 [p] := by
  refine ⟨rfl, by decide, fun _ => ⟨_, rfl, fun j hj => ?_⟩⟩
  obtain rfl : j = 0 := by omega
  have := cell_blk h 0
  exact this
theorem reads_oneL {W : World} {t : TypeId} {g : Nat} {e : SL} {v : Value} (hv : e.val = v) (h : W.heap[g]? = some (.cells #[v] t (0, 0))) : ReadsOf SL.val default W (some ⟨g, 0, none⟩) 1 [e] := by
  refine ⟨rfl, by decide, fun _ => ⟨_, rfl, fun j hj => ?_⟩⟩
  obtain rfl : j = 0 := by omega
  subst hv
  have := cell_blk h 0
  exact this

set_option maxRecDepth 100000 in
set_option maxHeartbeats 4000000 in
theorem stacks_any (w : World) : Calls Try.prog 9 #[] w fun e w' => Below w.heap.size w w' ∧ ∃ (g cap : Nat) (f : Nat → SL), e = .returned (.slice (some ⟨g, 0, none⟩) 16 cap) ∧ RowL w' w.heap.size g 16 cap (Stk.order.map f) ∧ ∀ s, s < 16 → (f s).s = s ∧ SL.Good w' g (f s) := by
  go_enter Try.func9, Try.ntmps9
  go_wp2_with fail
  go_loopw [1, 2, 3, 4, 5, 8] (fun v _ _ _ sv _ wr => ∃ (s : Nat) (xs : List SL), s ≤ 16 ∧ sv = .int .i64 s ∧ Hid (wr.ownsRow w.heap.size 28 1 v xs.length (encs SL.val xs)) ∧ Hid (xs.map SL.s = List.range s) ∧ Hid (∀ e ∈ xs, SL.GoodV wr v e) ∧ Hid (Below w.heap.size w wr)) (fun _ _ _ _ sv _ _ => 16 - (intOf sv).toNat)
  case atStart => exact ⟨0, [], by omega, rfl, own_nil _ _ _ _, rfl, Lib.hid (by simp), Below.refl _ _⟩
  case round =>
    obtain ⟨s, xs, hs, rfl, HO, HM, HG, HB⟩ := hrel
    have hlx : xs.length = s := by have := congrArg List.length HM.out; simpa using this
    by_cases hlt : s < 16
    · have hd : decide ((s : Int) < 16) = true := by simp; omega
      obtain ⟨wq, hwq⟩ : ∃ wq, wq = wr := ⟨wr, rfl⟩
      subst hwq
      go_wp2_with fail
      go_loopw [3, 4, 8] (fun lv _ kv wr => ∃ k : Nat, k ≤ 4 ∧ kv = .int .i64 k ∧ Hid (wr.ownsRow wq.heap.size 3 1 lv (setK s k).length (nums .i64 (setK s k))) ∧ Hid (Below wq.heap.size wq wr)) (fun _ _ kv _ => 4 - (intOf kv).toNat)
      case atStart => exact ⟨0, by omega, rfl, own_nil _ _ _ _, Below.refl _ _⟩
      case round =>
        obtain ⟨k, hk, rfl, HOl, HBl⟩ := hrel
        by_cases hk4 : k < 4
        · have hd4 : decide ((k : Int) < 4) = true := by simp; omega
          have hbit := bit_of ⟨s, hlt⟩ ⟨k, hk4⟩
          have hbit : bits .and .i64 ((s / 2 ^ k : Nat) : Int) 1 = ((s / 2 ^ k % 2 : Nat) : Int) := hbit
          have hpw : ((s / 2 ^ k : Nat) : Int) = (s : Int) / 2 ^ k := by push_cast; rfl
          rw [hpw] at hbit
          by_cases hb : s / 2 ^ k % 2 = 1
          · rw [hb] at hbit
            have hsz : wq.heap.size ≤ wr.heap.size := HBl.out.size
            have hlk := setK_len s k
            go_wp2_with (at_builtin; refine print_append_row wq.heap.size rfl _ _ 28 3 .i64 8 rfl Try.underlying28 info_int (by decide) _ (setK s k) [(k : Int)] (some ⟨wr.heap.size, 0, none⟩) 1 1 rfl rfl (own_alloc HOl.out _) (reads_oneI (alloc_new _ _ _)) (HBl.out.alloc hsz _) (by simp; omega) (by omega) ?_)
            intro v1 w1 hown hB1 _ _
            rw [← setK_in hb, show (setK s k).length + 1 = (setK s (k + 1)).length from by rw [setK_in hb]; simp] at hown
            have HO1 := Lib.hid hown; have HB1 := Lib.hid hB1
            clear hown hB1
            go_wp2_with fail
            go_roundw
            case rel => exact ⟨k + 1, by omega, by go_num, HO1, HB1⟩
            case measure => simp [intOf]; omega
          · have hb0 : s / 2 ^ k % 2 = 0 := by omega
            rw [hb0] at hbit
            go_wp2_with fail
            go_roundw
            case rel => exact ⟨k + 1, by omega, by go_num, by rw [setK_out hb]; exact HOl, HBl⟩
            case measure => simp [intOf]; omega
        · obtain rfl : k = 4 := by omega
          rw [setK_all] at HOl
          have hsz : wq.heap.size ≤ wr.heap.size := HBl.out.size
          obtain ⟨A, c, hv, hRd⟩ := own_reads HOl.out
          have hblk : ∀ ad, A = some ad → wq.heap.size ≤ ad.block ∧ ad.block < wr.heap.size := by
            intro ad ha
            have := HOl.out.lt ad.block (by rw [hv, ha]; rfl)
            exact this
          subst hv
          obtain ⟨E, hE⟩ : ∃ E : SL, E = ⟨A, c, s⟩ := ⟨_, rfl⟩
          have hEv : E.val = .slice A (Stk.setL s).length c := by rw [hE]; rfl
          have hEg : E.GoodV wr (.slice none 0 0) := by
            rw [hE]; exact ⟨hlt, hRd, fun ad ha => ⟨fun h => (nomatch (show (none : Option Nat) = some ad.block from h)), (hblk ad ha).2⟩⟩
          have hEs : E.s = s := by rw [hE]
          have hvE : ∀ k, E.A = some k → wq.heap.size ≤ k.block := fun k hk => by rw [hE] at hk; exact (hblk k hk).1
          have HEV := Lib.hid hEv; have HEG := Lib.hid hEg; have HES := Lib.hid hEs; have HEA := Lib.hid hvE
          clear hE hEv hEg hEs hvE hblk hRd HOl
          have hOw : wr.ownsRow w.heap.size 28 1 u1 xs.length (encs SL.val xs) := pw_own_below HO.out HBl.out
          go_wp2_with (at_builtin; refine print_append_row_of SL.val default w.heap.size rfl _ _ 34 28 (.slice none 0 0) 24 rfl Try.underlying34 info_list rfl (by decide) (fun _ => rfl) _ xs [E] (some ⟨wr.heap.size, 0, none⟩) 1 1 rfl rfl (own_alloc hOw _) (reads_oneL HEV.out (alloc_new _ _ _)) ((below_then HB.out HB.out.size HBl.out).alloc (by have := HB.out.size; omega) _) (by have := HB.out.size; simp; omega) (by omega) ?_)
          intro v1 w1 hown hB1 hg hat
          have hat : v1.ownBlock = u1.ownBlock ∨ ∃ b, v1.ownBlock = some b ∧ (wr.alloc (.cells #[.slice A (Stk.setL s).length c] 28)).heap.size ≤ b := hat.imp_right fun ⟨b, h1, h2⟩ => ⟨b, h1, by simp; omega⟩
          have hal : Below wr.heap.size wr (wr.alloc (.cells #[.slice A (Stk.setL s).length c] 28)) := (Below.refl _ wr).alloc (Nat.le_refl _) _
          have hgE : E.GoodV wr u1 := ⟨HEG.out.1, HEG.out.2.1, fun ad ha => ⟨fun h => by have h1 := (HO.out.lt _ h).2; have h2 := HEA.out ad ha; omega, (HEG.out.2.2 ad ha).2⟩⟩
          have HG1 := Lib.hid (show ∀ e ∈ xs ++ [E], SL.GoodV w1 v1 e from fun e he => by
            rcases List.mem_append.1 he with he | he
            · exact (((HG.out e he).below HBl.out).below hal).grown hg hat
            · rw [List.mem_singleton.1 he]; exact (hgE.below hal).grown hg hat)
          have HO1 := Lib.hid (show w1.ownsRow w.heap.size 28 1 v1 (xs ++ [E]).length (encs SL.val (xs ++ [E])) from by rw [List.length_append, hlx]; exact hown)
          have HM1 := Lib.hid (show (xs ++ [E]).map SL.s = List.range (s + 1) from by rw [List.map_append, HM.out, List.range_succ]; simp [HES.out])
          have HB1 := Lib.hid hB1
          clear hown hB1 hg hat hal hgE hOw
          go_wp2_with fail
          go_roundw
          case rel => exact ⟨s + 1, xs ++ [E], by omega, by go_num, HO1, HM1, HG1, HB1⟩
          case measure => simp [intOf]; omega
    · obtain rfl : s = 16 := by omega
      have hd : decide ((16 : Int) < 16) = false := by decide
      have hform : ∃ g cap, u1 = .slice (some ⟨g, 0, none⟩) 16 cap := by
        rcases HO.out.2 with ⟨_, h0⟩ | ⟨g, cap, cur, hv, _⟩
        · omega
        · exact ⟨g, cap, by rw [hv, hlx]⟩
      obtain ⟨g, cap, hv⟩ := hform
      subst hv
      have HRL := Lib.hid (show RowL wr w.heap.size g 16 cap xs from by have h := HO.out; rw [hlx] at h; exact h)
      have HGG := Lib.hid (show ∀ x ∈ xs, SL.Good wr g x from fun x hx => ⟨(HG.out x hx).1, (HG.out x hx).2.1, fun ad ha => ⟨fun h => ((HG.out x hx).2.2 ad ha).1 (by rw [h]; rfl), ((HG.out x hx).2.2 ad ha).2⟩⟩)
      clear HO HG
      go_wp2_with fail
      refine (stable16 w.heap.size g cap xs wr HGG.out HRL.out).mono ?_
      rintro e w2 ⟨rfl, ⟨s', hs1, hs2, hR⟩, hM⟩
      have hxs : xs = (List.range 16).map fun i => xs.getD i default := by
        apply List.ext_getElem (by simp [hlx])
        intro i h1 h2
        simp [List.getD_eq_getElem?_getD, List.getElem?_eq_getElem h1]
      have hfs : ∀ i, i < 16 → (xs.getD i default).s = i := by
        intro i hi
        have h := congrArg (fun l => l[i]?) HM.out
        simp only [List.getElem?_map, List.getElem?_range hi, List.getElem?_eq_getElem (show i < xs.length by omega), Option.map_some, Option.some.injEq] at h
        rw [List.getD_eq_getElem?_getD, List.getElem?_eq_getElem (show i < xs.length by omega)]
        exact h
      have hfm : ∀ i, i < 16 → xs.getD i default ∈ xs := by
        intro i hi
        rw [List.getD_eq_getElem?_getD, List.getElem?_eq_getElem (show i < xs.length by omega)]
        exact List.getElem_mem _
      rw [hxs] at hs2
      have hord := Stk.sorted_order keyL _ (fun i hi => by unfold keyL; rw [hfs i hi]) hs1 hs2
      have HRR := Lib.hid (hord ▸ hR)
      have HBB := Lib.hid (Below.then_mods HB.out HB.out.size hM (fun b hb => by have := (HRL.out.lt g rfl).1; simp at hb; omega))
      have HFF := Lib.hid (show ∀ i, i < 16 → (xs.getD i default).s = i ∧ SL.Good w2 g (xs.getD i default) from fun i hi => ⟨hfs i hi, (HGG.out _ (hfm i hi)).mods hM⟩)
      clear hs1 hs2 hR hM hxs hfs hfm hord HRL HGG HM hlx
      go_wp2_with fail
      go_ret
      exact ⟨HBB.out, g, cap, _, rfl, HRR.out, HFF.out⟩
end Go.Proofs.Ytbnelomknjnplaa
