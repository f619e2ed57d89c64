/- Two arrays of nineteen numbers: are they the same? -/
import Derived.Test.YtbljoihnjhllhaaLensFlat4
import Derived.DeepKeys
import Derived.Test.YtbljoihnjhllhaaLensFlat21
import Derived.Deep.WholeRow
namespace Go.Proofs.Ytbljoihnjhllhaa
open Go.RowKit
open Go.Proofs.YtbljoihnjhllhaaW.PrintWords

theorem flat1 (xs : List Int) : (xs.map fun x => [Lit.int .i64 x]).flatten = xs.map (Lit.int .i64) := by
  induction xs with
  | nil => rfl
  | cons x t ih => show [Lit.int .i64 x] ++ (t.map fun x => [Lit.int .i64 x]).flatten = _; rw [ih]; rfl
theorem lits19 (xs : List Int) (h : xs.length = 19) (hw : ∀ x ∈ xs, (Lit.int .i64 x).wf = true) : Try.prog.keyLits 2 75 (xs.map (Value.int .i64)) = some (xs.map (Lit.int .i64)) := by
  have hc : Try.prog.cellsOf 75 = 19 := by kernel_rfl
  have hi : Try.prog.cellsOf 3 = 1 := by kernel_rfl
  have key : ∀ k, k ≤ 19 → (List.range k).mapM (fun i => Try.prog.keyLits 1 3 (((xs.map (Value.int .i64)).drop (i * 1)).take 1)) = some ((xs.take k).map fun x => [Lit.int .i64 x]) := by
    intro k
    induction k with
    | zero => intro _; rfl
    | succ k ih =>
      intro hk
      have hx : xs[k]? = some (xs[k]'(by omega)) := List.getElem?_eq_getElem _
      have e1 : (((xs.map (Value.int .i64)).drop (k * 1)).take 1) = [Value.int .i64 (xs[k]'(by omega))] := by
        rw [Nat.mul_one, List.drop_eq_getElem_cons (by simp; omega)]
        simp
      have e2 : Try.prog.keyLits 1 3 [Value.int .i64 (xs[k]'(by omega))] = some [Lit.int .i64 (xs[k]'(by omega))] := by
        have hwk := hw _ (List.getElem_mem (show k < xs.length by omega))
        unfold Program.keyLits
        rw [Try.underlying3]
        simp [hwk]
      rw [List.range_succ, List.mapM_append, ih (by omega)]
      simp only [List.mapM_cons, List.mapM_nil, e1, e2]
      rw [List.take_add_one, hx, List.map_append]
      rfl
  unfold Program.keyLits
  rw [Try.underlying75]
  simp only
  rw [if_pos (by rw [hc]; simpa using h), hi, key 19 (Nat.le_refl _), List.take_of_length_le (by omega)]
  rw [Option.map_some]
  exact congrArg some (flat1 xs)
theorem eqIn19 (xs ys : List Int) (h : xs.length = 19) (h2 : ys.length = 19) (hw : ∀ x ∈ xs, (Lit.int .i64 x).wf = true) (hw2 : ∀ x ∈ ys, (Lit.int .i64 x).wf = true) (W : World) :
    (Op.equalIn 10000 75 (.agg (xs.map (Value.int .i64)).toArray) (.agg (ys.map (Value.int .i64)).toArray)).run Try.prog W = .ok (decide (xs = ys)) W := by
  have hk : Try.prog.keyTypeAt 2 75 = true := by kernel_rfl
  have hc : Try.prog.cellsOf 75 = 19 := by kernel_rfl
  have hform : ∀ zs : List Int, zs.length = 19 → (Value.agg (zs.map (Value.int .i64)).toArray).formed Try.prog 75 = true := by
    intro zs hz
    unfold Value.formed
    rw [Try.underlying75]
    simp [hc, hz]
  obtain ⟨r, hr, hiff⟩ := run_equalIn_deep (P := Try.prog) 9998 2 75 hk W 2 2 _ _ _ _ (hform xs h) (hform ys h2) (lits19 xs h hw) (lits19 ys h2 hw2)
  have e : r = decide (xs = ys) := by
    have hinj : (xs.map (Lit.int .i64) = ys.map (Lit.int .i64)) ↔ xs = ys := by
      constructor
      · intro e
        have := congrArg (List.map (fun l => match l with | Lit.int _ n => n | _ => 0)) e
        simpa [List.map_map, Function.comp_def] using this
      · intro e; rw [e]
    rw [hinj] at hiff
    by_cases q : xs = ys
    · rw [decide_eq_true q]; exact hiff.2 q
    · rw [decide_eq_false q]
      cases r
      · rfl
      · exact absurd (hiff.1 rfl) q
  rw [← e]; exact hr
theorem eq19 (xs ys : List Int) (h : xs.length = 19) (h2 : ys.length = 19) (hw : ∀ x ∈ xs, (Lit.int .i64 x).wf = true) (hw2 : ∀ x ∈ ys, (Lit.int .i64 x).wf = true) (W : World) :
    (binOp .eql 75 (.agg (xs.map (Value.int .i64)).toArray) (.agg (ys.map (Value.int .i64)).toArray)).run Try.prog W = .ok (.bool (decide (xs = ys))) W := by
  have hr := eqIn19 xs ys h h2 hw hw2 W
  simp only [binOp]
  simp [Op.equal, Op.maxDepth, hr]
end Go.Proofs.Ytbljoihnjhllhaa

/- lens.(*source).short, of any bits. -/
namespace Go.Proofs.Ytbljoihnjhllhaa
open Go.RowKit
open Go.Proofs.YtbljoihnjhllhaaW.PrintWords
open Srt

def headK (bs : List Int) (p : Nat) : Nat := (bitsVal bs p 4).toNat + 4
def headP (bs : List Int) (p : Nat) : Nat := p + 4 + 3 * headK bs p
def headS (bs : List Int) (p : Nat) : List Int := shortF bs (p + 4) (headK bs p)
def headE (bs : List Int) (p : Nat) : Int := if 8 * bs.length < p + 4 then 2 else if 8 * bs.length < headP bs p then 2 else if checkS (headS bs p) ≠ 0 then 3 else 0
/-- A block that holds an array of numbers. -/
def Blk19 (w : World) (b : Nat) (l : List Int) : Prop := w.heap[b]? = some (.cells (l.map (Value.int .i64)).toArray 75 (0, 0))
theorem Blk19.at {w : World} {b : Nat} {l : List Int} (h : Blk19 w b l) (j : Nat) (hj : j < l.length) : w.cell? ⟨b, j, none⟩ = some (.int .i64 (rd l (j : Int))) := by
  rw [cell_blk h]
  unfold rd
  simp [List.getElem?_eq_getElem hj, List.getD_eq_getElem?_getD]
theorem Blk19.set {w : World} {b : Nat} {l : List Int} (h : Blk19 w b l) (j : Nat) (x : Int) : Blk19 (w.setCell ⟨b, j, none⟩ (.int .i64 x)) b (l.set j x) := by
  unfold Blk19
  rw [blk_set h]
  simp [List.map_set]
theorem Blk19.reads {w : World} {b : Nat} {l : List Int} (h : Blk19 w b l) (hl : l.length ≤ 9223372036854775807) : ReadsInt w .i64 (some ⟨b, 0, none⟩) l.length l := by
  refine ⟨rfl, hl, fun _ => ⟨_, rfl, fun j hj => ?_⟩⟩
  rw [add_plain]
  show w.cell? ⟨b, j, none⟩ = _
  rw [cell_blk h]
  simp [List.getElem?_eq_getElem hj, List.getD_eq_getElem?_getD]
def ordL : List Int := [17, 18, 0, 1, 2, 3, 4, 5, 16, 6, 7, 8, 9, 10, 11, 12, 13, 14, 15]
theorem ordL_all : ∀ i : Fin 19, rd ordL ((i.val : Nat) : Int) = ((ord19.getD i.val 0 : Nat) : Int) ∧ ord19.getD i.val 0 < 19 := by decide +kernel
theorem ordL_at (i : Nat) (h : i < 19) : rd ordL (i : Int) = ((ord19.getD i 0 : Nat) : Int) ∧ ord19.getD i 0 < 19 := ordL_all ⟨i, h⟩
theorem size19 : (Try.prog.info? 75).map (·.size) = some 19 := by kernel_rfl
theorem store19_at {ops : Array Oper} {rest : List Oper} {o : Oper} {a : Act} {w : World} {Q : Exit → Act → World → Prop} (hgd : o.guard = none) (x y : Operand) (ho : o.op = .store 75 x y) (c c' : Array Value)
    (hx : a.eval x = .pointer (some ⟨w.heap.size, 0, none⟩)) (hy : a.eval y = .agg c') (hc : c.size = 19) (hc' : c'.size = 19) (h1 : c'.all (·.oneCell') = true)
    (h : wpList Try.prog ops Q rest (a.put o.dst undef) (w.alloc (.cells c' 75))) : wpList Try.prog ops Q (o :: rest) a (w.alloc (.cells c 75)) := by
  refine wpList_store_row hgd 75 x y ho w.heap.size c' hx hy 75 c (alloc_new _ _ _) (by rw [size19, hc']) (by rw [hc, hc']) h1 ?_
  rw [World.setRow_alloc_new]; exact h
theorem build19_at {ops : Array Oper} {rest : List Oper} {o : Oper} {a : Act} {w : World} {Q : Exit → Act → World → Prop} (hg : o.guard = none) (parts : Array (Nat × Operand)) (ho : o.op = .build 75 parts) (c : Array Value)
    (hf : Try.prog.built 75 (parts.map fun (i, x) => (i, a.eval x)).toList = some c)
    (h : wpList Try.prog ops Q rest (a.put o.dst (.agg c)) w) : wpList Try.prog ops Q (o :: rest) a w :=
  wpList_build hg 75 parts ho (by rw [hf]; rfl) (by rw [hf]; exact h)
def ordA : Array Value := (ordL.map (Value.int .i64)).toArray
set_option maxRecDepth 20000 in
set_option maxHeartbeats 1000000 in
theorem order_arr (w : World) : Calls Try.prog 37 #[] w fun e w' => e = .returned (.agg (ordL.map (Value.int .i64)).toArray) ∧ Below w.heap.size w w' := by
  go_enter Try.func37, Try.ntmps37
  go_wp2_with (first | refine build19_at rfl _ rfl ordA (by kernel_rfl) ?_ | refine store19_at rfl _ _ rfl _ ordA rfl rfl rfl rfl (by kernel_rfl) ?_)
  refine bodyPost_ret (results_oneK rfl _ _ _ _ _ _ _ rfl (alloc_new _ _ _) Try.underlying75 rfl size19) rfl ?_
  exact ⟨rfl, (Below.refl _ _).alloc (Nat.le_refl _) _⟩
/-- What stands after i of the lengths. -/
def ShL (bs : List Int) (p1 : Nat) (e1 : Int) (i p : Nat) (e : Int) (sh : List Int) : Prop :=
  sh.length = 19 ∧ (∀ x ∈ sh, 0 ≤ x ∧ x < 8) ∧ (e = 0 → e1 = 0 ∧ p = p1 + 3 * i ∧ p ≤ 8 * bs.length ∧ sh = shortF bs p1 i) ∧ (e ≠ 0 → (e1 ≠ 0 ∧ e = e1) ∨ (e1 = 0 ∧ e = 2 ∧ 8 * bs.length < p1 + 3 * i))
theorem ShL.next {bs : List Int} {p1 : Nat} {e1 : Int} {i p : Nat} {e : Int} {sh : List Int} (h : ShL bs p1 e1 i p e sh) {v : Int} {p' : Nat} {e' : Int} (hn : NumR bs p e 3 v p' e') (hv : 0 ≤ v ∧ v < 8) : ShL bs p1 e1 (i + 1) p' e' (sh.set (ord19.getD i 0) v) := by
  obtain ⟨h1, h2, h3, h4⟩ := h
  refine ⟨by simpa using h1, fun x hx => ?_, fun he => ?_, fun he => ?_⟩
  · rcases List.mem_or_eq_of_mem_set hx with hx | rfl
    · exact h2 x hx
    · exact hv
  · rcases hn with ⟨a, _, _, d⟩ | ⟨_, _, _, _, d⟩ | ⟨a, b, c, d, d2⟩
    · exact absurd (d ▸ he) a
    · rw [d] at he; exact absurd he (by decide)
    · obtain ⟨q1, q2, q3, q4⟩ := h3 a
      exact ⟨q1, by omega, by omega, by rw [q4, c, q2]; rfl⟩
  · rcases hn with ⟨a, _, _, d⟩ | ⟨a, b, _, _, d⟩ | ⟨_, _, _, _, d2⟩
    · rcases h4 a with ⟨q1, q2⟩ | ⟨q1, q2, q3⟩
      · exact .inl ⟨q1, by omega⟩
      · exact .inr ⟨q1, by omega, by omega⟩
    · obtain ⟨q1, q2, _, _⟩ := h3 a
      exact .inr ⟨q1, d, by omega⟩
    · exact absurd d2 he
theorem low8_check {sh : List Int} (h : ∀ x ∈ sh, 0 ≤ x ∧ x < 8) : checkS sh = 0 ∨ checkS sh = 3 := by
  unfold checkS
  rw [if_neg]
  · split
    · exact .inl rfl
    · exact .inr rfl
  · intro hb
    obtain ⟨x, hx, hbx⟩ := List.any_eq_true.1 hb
    have := h x hx
    simp [badLen] at hbx; omega
theorem head_all {bs : List Int} {p : Nat} {e : Int} {k p1 : Nat} {e1 : Int} (hn : NumR bs p e 4 (k : Int) p1 e1) {pp : Nat} {ee e' : Int} {sh : List Int} (h : ShL bs p1 e1 (k + 4) pp ee sh) (h1 : ee ≠ 0 → e' = ee) (h2 : ee = 0 → e' = if checkS sh = 0 then 0 else 3) :
    ((e ≠ 0 ∧ e' = e) ∨ (e = 0 ∧ e' = headE bs p)) ∧ (e' = 0 → ee = 0 ∧ pp = headP bs p ∧ sh = headS bs p) := by
  obtain ⟨_, _, h3, h4⟩ := h
  rcases hn with ⟨a, b, c, d⟩ | ⟨a, b, c, d, f⟩ | ⟨a, b, c, d, f⟩
  · have hee : ee ≠ 0 := fun q => by have := (h3 q).1; rw [d] at this; exact a this
    rcases h4 hee with ⟨_, q⟩ | ⟨q, _⟩
    · have he : e' = e := by rw [h1 hee, q, d]
      exact ⟨.inl ⟨a, he⟩, fun q2 => absurd (he ▸ q2) a⟩
    · rw [d] at q; exact absurd q a
  · have hee : ee ≠ 0 := fun q => by have := (h3 q).1; rw [f] at this; exact absurd this (by decide)
    rcases h4 hee with ⟨_, q⟩ | ⟨q, _⟩
    · have he : e' = 2 := by rw [h1 hee, q, f]
      refine ⟨.inr ⟨a, ?_⟩, fun q2 => absurd (he ▸ q2) (by decide)⟩
      unfold headE; rw [if_pos b, he]
    · rw [f] at q; exact absurd q (by decide)
  · have hk : headK bs p = k + 4 := by unfold headK; rw [← c]; simp
    have hP : headP bs p = p1 + 3 * (k + 4) := by unfold headP; rw [hk]; omega
    have hS : headS bs p = shortF bs p1 (k + 4) := by unfold headS; rw [hk, d]
    by_cases hee : ee = 0
    · obtain ⟨_, q2, q3, q4⟩ := h3 hee
      have he := h2 hee
      refine ⟨.inr ⟨a, ?_⟩, fun _ => ⟨hee, by omega, by rw [hS, q4]⟩⟩
      unfold headE
      rw [if_neg (by omega), if_neg (by omega), hS, ← q4, he]
      by_cases hc : checkS sh = 0
      · rw [if_pos hc, if_neg (fun q => q hc)]
      · rw [if_neg hc, if_pos hc]
    · rcases h4 hee with ⟨q, _⟩ | ⟨_, q2, q3⟩
      · exact absurd f q
      · have he : e' = 2 := by rw [h1 hee, q2]
        refine ⟨.inr ⟨a, ?_⟩, fun q2 => absurd (he ▸ q2) (by decide)⟩
        unfold headE
        rw [if_neg (by omega), if_pos (by omega), he]
set_option maxRecDepth 100000 in
set_option maxHeartbeats 8000000 in
theorem short_any (S g : Nat) (A : Option Addr) (bs : List Int) (p : Nat) (e : Int) (w : World) (h : Srx w S g A bs p e) (hAw : ∀ ad, A = some ad → ad.block < w.heap.size) :
    Calls Try.prog 42 #[.pointer (some ⟨S, 0, none⟩)] w fun en w' => ∃ tv p' e', en = .returned tv ∧ Srx w' S g A bs p' e' ∧ Mods [S, g] w w' ∧ ((e ≠ 0 ∧ e' = e) ∨ (e = 0 ∧ e' = headE bs p)) ∧
      (e' = 0 → p' = headP bs p ∧ ∃ B os, tv = .pointer (some ⟨B, 0, none⟩) ∧ w.heap.size ≤ B ∧ IsTree w' B w'.heap.size (headS bs p) os ∧ Above w' B w.heap.size) := by
  have hS0 := h.mods (S := S) (T := []) ((Mods.refl [] w).alloc (.cells ((List.replicate 19 (0 : Int)).map (Value.int .i64)).toArray 75)) (by simp) (by simp) (by simp)
  have HS0 := Lib.hid hS0
  have HL0 := Lib.hid (show Blk19 (w.alloc (.cells ((List.replicate 19 (0 : Int)).map (Value.int .i64)).toArray 75)) w.heap.size (List.replicate 19 0) from alloc_new _ _ _)
  have HM0 := Lib.hid ((Mods.refl [S, g] w).alloc (.cells ((List.replicate 19 (0 : Int)).map (Value.int .i64)).toArray 75))
  have HAW := Lib.hid hAw
  have hSw : S < w.heap.size := blk_lt h.blk
  have hgw : g < w.heap.size := by obtain ⟨q, o, hr, _⟩ := h.rdr; exact hr.lt
  clear h hS0 hAw
  go_enter Try.func42, Try.ntmps42
  go_wp2_with fail
  rw [show (#[Value.int .i64 0, .int .i64 0, .int .i64 0, .int .i64 0, .int .i64 0, .int .i64 0, .int .i64 0, .int .i64 0, .int .i64 0, .int .i64 0, .int .i64 0, .int .i64 0, .int .i64 0, .int .i64 0, .int .i64 0, .int .i64 0, .int .i64 0, .int .i64 0, .int .i64 0] : Array Value) = ((List.replicate 19 (0 : Int)).map (Value.int .i64)).toArray from rfl]
  generalize w.alloc (.cells ((List.replicate 19 (0 : Int)).map (Value.int .i64)).toArray 75) = w0 at *
  refine (num_any S g A bs p e 4 w0 HS0.out (by omega) (by omega)).mono ?_
  rintro en w1 ⟨v, p1, e1, rfl, hS1, hM1, hN1, hva, hvb⟩
  obtain ⟨k, rfl⟩ := Int.eq_ofNat_of_zero_le hva
  have hk16 : k < 16 := by omega
  have HS1 := Lib.hid hS1; have HM1 := Lib.hid (HM0.out.trans hM1); have HN1 := Lib.hid hN1
  have HL1 := Lib.hid (show Blk19 w1 w.heap.size (List.replicate 19 0) from hM1.blk HL0.out (by simp; omega))
  have i1 : wrap64 ((k : Int) + 4) = (k : Int) + 4 := w64 _ (by omega) (by omega)
  have i2 : IntKind.i64.wrap ((k : Int) + 4) = (k : Int) + 4 := IntWalk.i64_in _ (by omega)
  have k1 : (0 : Int) ≤ (k : Int) + 4 := by omega
  have k2 : (k : Int) + 4 ≤ 19 := by omega
  have k3 : ((k : Int) + 4).toNat = k + 4 := by omega
  clear hS1 hM1 hN1 hva hvb
  go_wp2_with fail
  refine (order_arr w1).mono ?_
  rintro en w2 ⟨rfl, hB⟩
  have hm2 : Mods [] w1 (w2.alloc (.cells ordA 75)) := (Mods.of_below hB []).alloc _
  have HS2 := Lib.hid (HS1.out.mods hm2 (by simp) (by simp) (by simp)); have HM2 := Lib.hid (HM1.out.trans (hm2.mono (R := [S, g]) (by simp)))
  have HL2 := Lib.hid (show Blk19 (w2.alloc (.cells ordA 75)) w.heap.size (List.replicate 19 0) from hm2.blk HL1.out (by simp))
  have HO2 := Lib.hid (show Blk19 (w2.alloc (.cells ordA 75)) w2.heap.size ordL from alloc_new _ _ _)
  have hz2 : w.heap.size < w2.heap.size := by
    have h1 := hB.size; have h2 := blk_lt (show w1.heap[w.heap.size]? = _ from HL1.out); omega
  rw [show (ordL.map (Value.int .i64)).toArray = ordA from rfl]
  clear hB hm2
  go_wp2_with (refine store19_at rfl _ _ rfl _ ordA rfl rfl rfl rfl (by kernel_rfl) ?_)
  generalize w2.alloc (.cells ordA 75) = w3 at *
  generalize w2.heap.size = O at *
  have HSH0 := Lib.hid (show ShL bs p1 e1 0 p1 e1 (List.replicate 19 0) from ⟨rfl, fun x hx => by rw [(List.mem_replicate.1 hx).2]; omega, fun he => ⟨he, rfl, by
      rcases HN1.out with ⟨a, _, _, d⟩ | ⟨_, _, _, _, d⟩ | ⟨_, b, _, c, _⟩
      · exact absurd (d ▸ he) a
      · rw [d] at he; exact absurd he (by decide)
      · omega, rfl⟩, fun he => .inl ⟨he, rfl⟩⟩)
  go_loopw [7, 17] (fun _ x wr => ∃ (i pp : Nat) (ee : Int) (sh : List Int), i ≤ k + 4 ∧ x = .int .i64 i ∧ Hid (Srx wr S g A bs pp ee) ∧ Hid (Blk19 wr w.heap.size sh) ∧ Hid (Blk19 wr O ordL) ∧ Hid (ShL bs p1 e1 i pp ee sh) ∧ Hid (Mods [S, g] w wr)) (fun _ x _ => k + 4 - (intOf x).toNat)
  case atStart => exact ⟨0, p1, e1, _, by omega, rfl, HS2, HL2, HO2, HSH0, HM2⟩
  case round =>
    clear HS2 HL2 HO2 HSH0 HM2
    obtain ⟨i, pp, ee, sh, hi, rfl, HS, HL, HO, HSH, HM⟩ := hrel
    by_cases hlt : i < k + 4
    · obtain ⟨x, hx⟩ : ∃ x, ord19.getD i 0 = x := ⟨_, rfl⟩
      have hxo := ordL_at i (by omega)
      rw [hx] at hxo
      have hx19 := hxo.2
      have cO : wr.cell? ⟨O, i, none⟩ = some (.int .i64 x) := by rw [HO.out.at i (by show i < 19; omega), hxo.1]
      have l1 : decide ((i : Int) < (k : Int) + 4) = true := decide_eq_true (by omega)
      have l2 : (i : Int) < (k : Int) + 4 := by omega
      have l3 : i < k + 4 := hlt
      have HX := Lib.hid hx
      clear hx hxo
      go_wp2_with fail
      refine (num_any S g A bs pp ee 3 wr HS.out (by omega) (by omega)).mono ?_
      rintro en w4 ⟨v, p4, e4, rfl, hS4, hM4, hN4, hv4a, hv4b⟩
      have hL4 : Blk19 w4 w.heap.size sh := hM4.blk HL.out (by simp; omega)
      have c4 : w4.cell? ⟨w.heap.size, x, none⟩ = some (.int .i64 (rd sh (x : Int))) := hL4.at x (by rw [HSH.out.1]; exact hx19)
      have f4 : w4.frozen? ⟨w.heap.size, x, none⟩ = false := free_blk hL4 x
      have HS4 := Lib.hid hS4; have HM4 := Lib.hid (HM.out.trans hM4); have HN4 := Lib.hid hN4; have HL4 := Lib.hid hL4
      have HO4 := Lib.hid (show Blk19 w4 O ordL from hM4.blk HO.out (by simp; omega))
      have m1 : (x : Int) < 19 := by omega
      have hv8 : v < 8 := hv4b
      generalize rd sh (x : Int) = old at *
      clear hS4 hM4 hN4 hL4 cO
      go_wp2_with fail
      go_roundw
      case rel =>
        have hmx : Mods [w.heap.size] w4 (w4.setCell ⟨w.heap.size, x, none⟩ (.int .i64 v)) := (Mods.refl _ w4).setCell (p := ⟨w.heap.size, x, none⟩) (.inl (by simp)) _
        have g1 := Lib.hid (HS4.out.mods hmx (by simp; omega) (by simp; omega) (fun ad h => by have := HAW.out ad h; simp; omega))
        have g2 := Lib.hid (HL4.out.set x v)
        have g3 : Hid (Blk19 (w4.setCell ⟨w.heap.size, x, none⟩ (.int .i64 v)) O ordL) := Lib.hid (hmx.blk HO4.out (by simp; omega))
        have g4 := Lib.hid (HSH.out.next HN4.out ⟨hv4a, hv8⟩)
        rw [HX.out] at g4
        have g5 := Lib.hid (HM4.out.setCell (p := ⟨w.heap.size, x, none⟩) (.inr (Nat.le_refl _)) (.int .i64 v))
        first | exact ⟨i + 1, p4, e4, sh.set x v, by omega, by go_num, g1, g2, g3, g4, g5⟩ | ((repeat apply Exists.intro); exact ⟨⟨i + 1, p4, e4, sh.set x v, by omega, by go_num, g1, g2, g3, g4, g5⟩, rfl⟩)
      case measure => simp [intOf]; omega
    · obtain rfl : i = k + 4 := by omega
      obtain ⟨shA, hshA⟩ : ∃ shA, (sh.map (Value.int .i64)).toArray = shA := ⟨_, rfl⟩
      have hbk : wr.heap[w.heap.size]? = some (.cells shA 75 (0, 0)) := by rw [← hshA]; exact HL.out
      have hsz : (Try.prog.info? 75).map (·.size) = some shA.size := by rw [size19, ← hshA]; simp [HSH.out.1]
      have l1 : decide (((k + 4 : Nat) : Int) < (k : Int) + 4) = false := decide_eq_false (by omega)
      have l2 : ¬ ((k + 4 : Nat) : Int) < (k : Int) + 4 := by omega
      have heq : ∀ W, (Op.equalIn 10000 75 (.agg shA) (.agg #[.int .i64 0, .int .i64 0, .int .i64 0, .int .i64 0, .int .i64 0, .int .i64 0, .int .i64 0, .int .i64 0, .int .i64 0, .int .i64 0, .int .i64 0, .int .i64 0, .int .i64 0, .int .i64 0, .int .i64 0, .int .i64 0, .int .i64 0, .int .i64 0, .int .i64 0])).run Try.prog W = .ok (decide (sh = List.replicate 19 0)) W := fun W => by
        rw [← hshA]
        exact eqIn19 sh (List.replicate 19 0) HSH.out.1 (by simp) (fun x hx => by have := HSH.out.2.1 x hx; simp [Lit.wf, IntKind.min, IntKind.max, IntKind.bits, IntKind.signed]; omega) (fun x hx => by rw [(List.mem_replicate.1 hx).2]; decide) W
      have HSHA := Lib.hid hshA; have HBK := Lib.hid hbk; have HSZ := Lib.hid hsz
      have hs1 : wr.cell? ⟨S, 1, none⟩ = some (.int .i64 ee) := by rw [cell_blk HS.out.blk]; rfl
      clear hshA hbk hsz
      by_cases hz : sh = List.replicate 19 0
      · rw [decide_eq_true hz] at heq
        go_wp2_with (first | refine wpList_load_row rfl 75 _ rfl w.heap.size rfl 75 shA (0, 0) _ HBK.out Try.underlying75 rfl HSZ.out ?_ | refine build19_at rfl _ rfl ((List.replicate 19 (0 : Int)).map (Value.int .i64)).toArray (by kernel_rfl) ?_)
        refine (fail_any S g A bs pp ee 3 wr HS.out).mono ?_
        rintro en w5 ⟨rfl, hS5, hM5⟩
        have HM5 := Lib.hid (HM.out.trans (hM5.mono (R := [S, g]) (by simp)))
        have HHE := Lib.hid (head_all (e' := if ee = 0 then 3 else ee) HN1.out HSH.out (fun q => if_neg q) (fun q => by rw [if_pos q, hz]; rfl))
        have he5 : (if ee = 0 then (3 : Int) else ee) ≠ 0 := by split <;> omega
        generalize (if ee = 0 then (3 : Int) else ee) = e5 at *
        have HS5 := Lib.hid hS5
        have hs5 : w5.cell? ⟨S, 1, none⟩ = some (.int .i64 e5) := by rw [cell_blk hS5.blk]; rfl
        have d5 : (e5 != 0) = true := bne_iff_ne.2 he5
        clear hS5 hM5 hs1 heq
        go_wp2_with fail
        go_ret
        exact ⟨_, pp, e5, rfl, HS5.out, HM5.out, HHE.out.1, fun q => absurd q he5⟩
      · rw [decide_eq_false hz] at heq
        by_cases hee : ee = 0
        · subst hee
          have hA0 : ReadsInt wr .i64 (some ⟨w.heap.size, 0, none⟩) 19 sh := by
            have h := HL.out.reads (by rw [HSH.out.1]; decide)
            rwa [HSH.out.1] at h
          have HA0 := Lib.hid hA0
          go_wp2_with (first | refine wpList_load_row rfl 75 _ rfl w.heap.size rfl 75 shA (0, 0) _ HBK.out Try.underlying75 rfl HSZ.out ?_ | refine build19_at rfl _ rfl ((List.replicate 19 (0 : Int)).map (Value.int .i64)).toArray (by kernel_rfl) ?_)
          by_cases hck : checkS sh = 0
          · refine (tree_new2 (some ⟨w.heap.size, 0, none⟩) 19 19 sh wr HA0.out (by omega) (Nat.le_refl _) hck).mono ?_
            rintro en w5 ⟨hB5, B, os, rfl, hBw, hT5, hAb5⟩
            have hm5 := Mods.of_below hB5 []
            have HS5 := Lib.hid (HS.out.mods hm5 (by simp) (by simp) (by simp)); have HM5 := Lib.hid (HM.out.trans (hm5.mono (R := [S, g]) (by simp)))
            have HT5 := Lib.hid hT5; have HAB5 := Lib.hid hAb5
            have hz5 := hB5.size
            have hz4 := HM.out.size
            clear hB5 hm5 hT5 hAb5 hs1 heq hA0
            go_wp2_with fail
            refine (fail_any S g A bs pp 0 0 w5 HS5.out).mono ?_
            rintro en w6 ⟨rfl, hS6, hM6⟩
            rw [if_pos rfl] at hS6
            have HM6 := Lib.hid (HM5.out.trans (hM6.mono (R := [S, g]) (by simp)))
            have HS6 := Lib.hid hS6
            have HT6 := Lib.hid (HT5.out.keep HAB5.out hM6 (by simp; omega))
            have hz6 := hM6.size
            have HHE := Lib.hid (head_all (e' := 0) HN1.out HSH.out (fun q => absurd rfl q) (fun _ => by rw [if_pos hck]))
            clear hS6
            go_wp2_with fail
            go_ret
            refine ⟨_, pp, 0, rfl, HS6.out, HM6.out, HHE.out.1, fun _ => ⟨(HHE.out.2 (by first | rfl | trivial)).2.1, B, os, rfl, by omega, ?_, ?_⟩⟩
            · rw [← (HHE.out.2 (by first | rfl | trivial)).2.2]
              exact HT6.out.1.up hz6 (Nat.le_refl _)
            · obtain ⟨q1, q2⟩ := HT6.out.2
              exact ⟨by omega, fun i ad n c hc => by have := q2 i ad n c hc; omega⟩
          · refine (tree_bad (some ⟨w.heap.size, 0, none⟩) 19 19 sh wr HA0.out (by omega) hck).mono ?_
            have h3 : checkS sh = 3 := by
              rcases low8_check HSH.out.2.1 with q | q
              · exact absurd q hck
              · exact q
            rintro en w' ⟨rfl, rfl⟩
            rw [h3]
            have HHE := Lib.hid (head_all (e' := 3) HN1.out HSH.out (fun q => absurd rfl q) (fun _ => by rw [if_neg hck]))
            clear hs1 heq hA0
            go_wp2_with fail
            refine (fail_any S g A bs pp 0 3 wr HS.out).mono ?_
            rintro en w6 ⟨rfl, hS6, hM6⟩
            rw [if_pos rfl] at hS6
            have HM6 := Lib.hid (HM.out.trans (hM6.mono (R := [S, g]) (by simp)))
            have HS6 := Lib.hid hS6
            clear hS6 hM6
            go_wp2_with fail
            go_ret
            first | exact ⟨_, pp, 3, rfl, HS6.out, HM6.out, HHE.out.1, fun q => absurd q (by decide)⟩ | exact ⟨_, rfl, pp, 3, HS6.out, HM6.out, HHE.out.1, fun q => absurd q (by decide)⟩
        · have d5 : (ee != 0) = true := bne_iff_ne.2 hee
          have HHE := Lib.hid (head_all (e' := ee) HN1.out HSH.out (fun _ => rfl) (fun q => absurd q hee))
          go_wp2_with (first | refine wpList_load_row rfl 75 _ rfl w.heap.size rfl 75 shA (0, 0) _ HBK.out Try.underlying75 rfl HSZ.out ?_ | refine build19_at rfl _ rfl ((List.replicate 19 (0 : Int)).map (Value.int .i64)).toArray (by kernel_rfl) ?_)
          go_ret
          first | exact ⟨_, pp, ee, rfl, HS.out, HM.out, HHE.out.1, fun q => absurd q hee⟩ | exact ⟨_, rfl, pp, ee, HS.out, HM.out, HHE.out.1, fun q => absurd q hee⟩
end Go.Proofs.Ytbljoihnjhllhaa
