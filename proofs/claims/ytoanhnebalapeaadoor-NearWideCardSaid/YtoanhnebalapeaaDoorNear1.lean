/- What strings.FieldsSeq hands out: the words of an ASCII text. -/
import Derived.Shelf.Abstract
import Derived.Shelf.RegionOpen
import Derived.WalkKit
import Derived.OwnWalkIn
import Derived.TacticsInMore
import Derived.LoopNIn
import Derived.LoopIn
import Derived.Stop.RegionWithIn
import Derived.Lib.Hide
import Derived.Lib.LaidTab
import Derived.Outline
import Derived.Test.YtoanhnebalapeaaDoorTypes
import Derived.Test.YtoanhnebalapeaaDoorSeqOwn
import Derived.Test.YtoanhnebalapeaaDoorNearP
namespace Go.Proofs.YtoanhnebalapeaaDoor
open Go.RowKit Go.Shelf
open Nr
attribute [local go_sem] Oper.semAt_some

/-- A word that is handed out: one of the text's. -/
abbrev FW (ws : List (Nat × Nat)) : Type := { x : Nat × Nat // x ∈ ws }
def encW (s : ByteArray) {ws : List (Nat × Nat)} (x : FW ws) : Array Value := #[.string (s.extract x.1.1 x.1.2)]
/-- The table of spaces lies as it was laid. -/
def Spaces (w : World) : Prop := ∀ c, c < 256 → w.cell? ⟨0, c, none⟩ = some (.int .u8 (if Lib.isSp (UInt8.ofNat c) then 1 else 0))
theorem Spaces.of_block {w w' : World} (h : Spaces w) (hb : w'.heap[0]? = w.heap[0]?) : Spaces w' := fun c hc => (World.cell?_of_block (w := w) hb).trans (h c hc)

def stv : Option Nat → Int
  | none => -1
  | some q => q
theorem drop_hit {α : Type} {ws r : List α} {j : Nat} {a : α} (h : ws.drop j = a :: r) : ws[j]? = some a ∧ ws.drop (j + 1) = r := by
  constructor
  · have := congrArg (fun l => l[0]?) h
    simpa using this
  · have := congrArg List.tail h
    simpa using this
theorem attach_hit {α : Type} {ws : List α} {j : Nat} {a : α} (h : ws[j]? = some a) : ∃ hm : a ∈ ws, ws.attach.take (j + 1) = ws.attach.take j ++ [⟨a, hm⟩] := by
  have hm := List.mem_of_getElem? h
  refine ⟨hm, ?_⟩
  have hj := (List.getElem?_eq_some_iff.1 h).1
  have e : ws.attach[j]? = some ⟨a, hm⟩ := by
    have e := congrArg (fun m => m[j]?) (List.attach_map_subtype_val ws)
    simp only [List.getElem?_map, h] at e
    rw [List.getElem?_eq_getElem (by rw [List.length_attach]; exact hj)] at e ⊢
    simp only [Option.map_some, Option.some.injEq] at e ⊢
    exact Subtype.ext e
  rw [List.take_add_one, e]; rfl

set_option maxRecDepth 100000 in
set_option maxHeartbeats 2000000 in
theorem fields1_in (n : Nat) (hn : 1 ≤ n) (l Bs B : Nat) (s : ByteArray) (ws : List (Nat × Nat)) (hws : scan s.data.toList 0 none = ws) (hs : s.size ≤ 4294967281) (hascii : ∀ (j : Nat) b, s.data.toList[j]? = some b → b.toNat < 128)
    (J Jx : List (FW ws) → World → Prop)
    (hY : ∀ pre x W1, J pre W1 → B ≤ W1.heap.size → pre.length < ws.length → YieldAt Fence.wide (n - 1) Tryd.prog l (encW s x) W1 fun e W' =>
      ((e = .returned (.bool true) ∧ J (pre ++ [x]) W') ∨ (e = .returned (.bool false) ∧ Jx (pre ++ [x]) W')) ∧ Leaves B [Bs, 0] W1 W')
    (W : World) (hB : W.heap.size = B) (hBl : Bs < B) (_hgl : 0 < B) (hBs : W.cell? ⟨Bs, 0, none⟩ = some (.string s)) (hsp : Spaces W) (h0 : J [] W) :
    CallsIn Fence.wide n Tryd.prog 21 #[.func (.yield l) #[] #[], .pointer (some ⟨Bs, 0, none⟩)] W fun e W' => (∃ v, e = .returned v) ∧
      ((∃ ys, ys = ws.attach ∧ J ys W') ∨ (∃ pre, (∃ k, pre = ws.attach.take k) ∧ Jx pre W')) := by
  have HWS := Lib.hid hws; have HA := Lib.hid hascii; have HY := Lib.hid hY
  have hro : Fence.wide.round = none := rfl
  clear hws hascii hY
  refine callsIn_of_wp Tryd.func21 rfl trivial ?_ hro
  simp only [Tryd.ntmps21, List.size_toArray, List.length_cons, List.length_nil, Nat.reduceAdd, Nat.reduceSub, Array.replicate_succ, Array.replicate_zero, List.push_toArray, List.append_toArray, List.nil_append, List.cons_append]
  gi_wp2
  gi_loopw [3, 4] (fun st i wr => ∃ (k j : Nat) (o : Option Nat), k ≤ s.size ∧ i = .int .i64 k ∧ st = .int .i64 (stv o) ∧ (∀ q, o = some q → q ≤ k) ∧ Hid (ws.drop j = scan (s.data.toList.drop k) k o) ∧ Hid (J (ws.attach.take j) wr) ∧ Hid (wr.cell? ⟨Bs, 0, none⟩ = some (.string s) ∧ Spaces wr) ∧ B ≤ wr.heap.size) (fun _ i _ => s.size - (intOf i).toNat)
  case atStart => exact ⟨0, 0, none, Nat.zero_le _, rfl, rfl, (by intro q h; cases h), by show _ = _; rw [List.drop_zero, List.drop_zero]; exact HWS.out.symm, h0, ⟨hBs, hsp⟩, by omega⟩
  case round =>
    obtain ⟨k, j, o, hk, rfl, rfl, ho, HD, HJ0, HC, hbz⟩ := hrel
    have hc1 := HC.out.1
    by_cases hlt : k < s.size
    · obtain ⟨b, hb⟩ : ∃ b, s.data.toList[k]? = some b := ⟨_, List.getElem?_eq_getElem (by simpa using hlt)⟩
      have hb1 := HA.out k b hb
      have hbg : (s[k]'hlt) = b := by
        have : s.data.toList[k]? = some (s[k]'hlt) := by
          rw [List.getElem?_eq_getElem (by simpa using hlt)]; rfl
        rw [this] at hb; exact Option.some.inj hb
      have hdr : s.data.toList.drop k = b :: s.data.toList.drop (k + 1) := by
        rw [List.drop_eq_getElem_cons (by simpa using hlt)]
        have hb2 := hb
        rw [List.getElem?_eq_getElem (by simpa using hlt)] at hb2
        rw [Option.some.inj hb2]
      have hcs := HC.out.2 b.toNat (by omega)
      rw [UInt8.ofNat_toNat] at hcs
      have HDR := Lib.hid hdr
      clear hb hdr
      cases hsb : Lib.isSp b
      · rw [hsb] at hcs
        have HSB := Lib.hid hsb
        clear hsb
        have HN := Lib.hid (show ws.drop j = scan (s.data.toList.drop (k + 1)) (k + 1) (some (o.getD k)) from by
          rw [HD.out, HDR.out]; exact scan_skip HSB.out)
        cases o with
        | none =>
          rw [show stv none = -1 from rfl]
          gi_wp2
          go_roundw
          case rel => exact ⟨k + 1, j, some k, by omega, by go_num, rfl, fun q hq => by cases hq; omega, HN.out, HJ0.out, HC.out, hbz⟩
          case measure => simp [intOf]; omega
        | some q =>
          have hq := ho q rfl
          rw [show stv (some q) = (q : Int) from rfl]
          have hz : ¬ (q : Int) < 0 := by omega
          gi_wp2
          go_roundw
          case rel => exact ⟨k + 1, j, some q, by omega, by go_num, rfl, fun q' hq' => by cases hq'; omega, HN.out, HJ0.out, HC.out, hbz⟩
          case measure => simp [intOf]; omega
      · rw [hsb] at hcs
        have HSB := Lib.hid hsb
        clear hsb
        cases o with
        | none =>
          have HN := Lib.hid (show ws.drop j = scan (s.data.toList.drop (k + 1)) (k + 1) none from by
            rw [HD.out, HDR.out]; exact scan_gap HSB.out)
          rw [show stv none = -1 from rfl]
          gi_wp2
          go_roundw
          case rel => exact ⟨k + 1, j, none, by omega, by go_num, rfl, fun q' hq' => (by cases hq'), HN.out, HJ0.out, HC.out, hbz⟩
          case measure => simp [intOf]; omega
        | some q =>
          have hN : ws.drop j = (q, k) :: scan (s.data.toList.drop (k + 1)) (k + 1) none := by
            rw [HD.out, HDR.out]; exact scan_word HSB.out
          obtain ⟨hw1, hw2⟩ := drop_hit hN
          obtain ⟨hm, htk⟩ := attach_hit hw1
          have hjl := (List.getElem?_eq_some_iff.1 hw1).1
          have HN := Lib.hid hw2; have HTK := Lib.hid htk
          clear hN hw1 hw2 htk
          have hq := ho q rfl
          rw [show stv (some q) = (q : Int) from rfl]
          have hz : (q : Int) ≤ (k : Int) := by omega
          obtain ⟨fn, tmps, assign, body, hy, hR⟩ := HY.out (ws.attach.take j) ⟨(q, k), hm⟩ wr HJ0.out hbz (by rw [List.length_take, List.length_attach]; omega)
          unfold encW at hy
          dsimp only at hy
          have HR := Lib.hid (hR.mono (R' := fun e W' => ∃ bb : Bool, e = .returned (.bool bb) ∧ Hid (bb = true → J (ws.attach.take (j + 1)) W') ∧ Hid (bb = false → Jx (ws.attach.take (j + 1)) W') ∧ Hid (Leaves B [Bs, 0] wr W')) (fun e W' h => by
            rcases h with ⟨⟨rfl, h1⟩ | ⟨rfl, h1⟩, h2⟩
            · exact ⟨true, rfl, fun _ => by rw [HTK.out]; exact h1, fun h => (by cases h), h2⟩
            · exact ⟨false, rfl, fun h => (by cases h), fun _ => by rw [HTK.out]; exact h1, h2⟩))
          clear hR
          gi_wp2
          refine HR.out.mono ?_
          rintro e W3 ⟨bb, rfl, h1, h2, h3⟩
          cases bb
          · gi_wp2
            refine bodyPost_ret (results_none rfl _ _ _) rfl ?_
            exact ⟨⟨_, rfl⟩, .inr ⟨_, ⟨j + 1, rfl⟩, h2.out (by first | rfl | trivial)⟩⟩
          · gi_wp2
            go_roundw
            case rel => exact ⟨k + 1, j + 1, none, by omega, by go_num, rfl, fun q' hq' => (by cases hq'), HN.out, h1.out (by first | rfl | trivial), ⟨(World.cell?_of_block (w := wr) (h3.out.same Bs (.inr (by simp)) (by omega))).trans HC.out.1, HC.out.2.of_block (h3.out.same _ (.inr (by simp)) (by omega))⟩, Nat.le_trans hbz h3.out.size⟩
            case measure => simp [intOf]; omega
    · obtain rfl : k = s.size := by omega
      have hdr : s.data.toList.drop s.size = [] := List.drop_eq_nil_of_le (by simp)
      have HDR := Lib.hid hdr
      clear hdr
      cases o with
      | none =>
        have hfin := HJ0.out
        have hz0 : ws.drop j = [] := by rw [HD.out, HDR.out]; rfl
        rw [List.take_of_length_le (by rw [List.length_attach]; simpa using hz0)] at hfin
        have HF := Lib.hid hfin
        clear hfin hz0
        rw [show stv none = -1 from rfl]
        gi_wp2
        go_end0
        first | exact ⟨⟨_, rfl⟩, .inl HF.out⟩ | exact ⟨⟨_, rfl⟩, .inl ⟨_, rfl, HF.out⟩⟩
      | some q =>
        have hN : ws.drop j = [(q, s.size)] := by rw [HD.out, HDR.out]; rfl
        obtain ⟨hw1, hw2⟩ := drop_hit hN
        obtain ⟨hm, htk⟩ := attach_hit hw1
        have hjl := (List.getElem?_eq_some_iff.1 hw1).1
        have hall : ws.attach.take (j + 1) = ws.attach := List.take_of_length_le (by rw [List.length_attach]; simpa using hw2)
        have HTK := Lib.hid (hall.symm.trans htk)
        clear hN hw1 hw2 htk hall
        have hq := ho q rfl
        rw [show stv (some q) = (q : Int) from rfl]
        have hz : (q : Int) ≤ (s.size : Int) := by omega
        obtain ⟨fn, tmps, assign, body, hy, hR⟩ := HY.out (ws.attach.take j) ⟨(q, s.size), hm⟩ wr HJ0.out hbz (by rw [List.length_take, List.length_attach]; omega)
        unfold encW at hy
        dsimp only at hy
        have HR := Lib.hid (hR.mono (R' := fun e W' => ∃ bb : Bool, e = .returned (.bool bb) ∧ Hid (bb = true → J ws.attach W') ∧ Hid (bb = false → Jx ws.attach W')) (fun e W' h => by
          rcases h with ⟨⟨rfl, h1⟩ | ⟨rfl, h1⟩, h2⟩
          · exact ⟨true, rfl, fun _ => by rw [HTK.out]; exact h1, fun h => (by cases h)⟩
          · exact ⟨false, rfl, fun h => (by cases h), fun _ => by rw [HTK.out]; exact h1⟩))
        clear hR
        gi_wp2
        refine HR.out.mono ?_
        rintro e W3 ⟨bb, rfl, h1, h2⟩
        gi_wp2
        go_end0
        cases bb
        · exact ⟨⟨_, rfl⟩, .inr ⟨_, ⟨ws.length, (List.take_of_length_le (by rw [List.length_attach]; exact Nat.le_refl _)).symm⟩, h2.out rfl⟩⟩
        · first | exact ⟨⟨_, rfl⟩, .inl (h1.out rfl)⟩ | exact ⟨⟨_, rfl⟩, .inl ⟨_, rfl, h1.out rfl⟩⟩

theorem fields_stops (n : Nat) (hn : 1 ≤ n) (Bs : Nat) (s : ByteArray) (ws : List (Nat × Nat)) (hws : scan s.data.toList 0 none = ws) (hs : s.size ≤ 4294967281) (hascii : ∀ (j : Nat) b, s.data.toList[j]? = some b → b.toNat < 128)
    (w : World) (hBl : Bs < w.heap.size) (hgl : 0 < w.heap.size) (hBs : w.cell? ⟨Bs, 0, none⟩ = some (.string s)) (hsp : Spaces w) :
    SeqOwn Fence.wide n Tryd.prog 21 #[.pointer (some ⟨Bs, 0, none⟩)] (encW s) [Bs, 0] (fun ys => ys = ws.attach) (fun pre => ∃ k, pre = ws.attach.take k) ws.length w :=
  fun l J Jx W hW _ _ hY h0 =>
    fields1_in n hn l Bs W.heap.size s ws hws hs hascii J Jx hY W rfl (by have := hW.size; omega) (by have := hW.size; omega) ((hW.cell (p := ⟨Bs, 0, none⟩) hBl).trans hBs) (hsp.of_block (hW.block _ hgl)) h0

set_option maxHeartbeats 400000 in
theorem fields_any (s : ByteArray) (w : World) :
    Calls Tryd.prog 19 #[.string s] w fun e w' => e = .returned (.func (.func 21) #[] #[.pointer (some ⟨w.heap.size, 0, none⟩)]) ∧ w' = w.alloc (.cells #[.string s] 9) := by
  go_enter Tryd.func19, Tryd.ntmps19
  go_wp2
  go_ret
  exact ⟨rfl, rfl⟩
end Go.Proofs.YtoanhnebalapeaaDoor
