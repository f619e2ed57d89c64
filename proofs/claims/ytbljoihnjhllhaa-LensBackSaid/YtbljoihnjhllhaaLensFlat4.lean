/- Small words on worlds, blocks and readings that all walks of this seat use. -/
import Derived.WalkKit
import Derived.WalkSpells
import Derived.WalkLawsBesides
import Derived.LoopTactic
import Derived.Outline
import Derived.Lib.Hide
import Derived.Deep.QuietTactic
import Derived.BigQuiet
import Derived.Deep.LoopGhost
import Derived.Test.YtbljoihnjhllhaaWWords
import Derived.Test.YtbljoihnjhllhaaChecked
import Derived.Laws.ResultCell
import Derived.Laws.Rows
import Derived.Test.YtbljoihnjhllhaaLensFlat1
namespace Go.Proofs.Ytbljoihnjhllhaa
open Go.RowKit
open Go.Proofs.YtbljoihnjhllhaaW.PrintWords

/-! ### What a call may have turned: the blocks of S, and new ones -/
structure Mods (S : List Nat) (w w' : World) : Prop where
  os : w'.os = w.os
  tape : w'.tape = w.tape
  output : w'.output = w.output
  size : w.heap.size ≤ w'.heap.size
  block : ∀ k, k < w.heap.size → k ∉ S → w'.heap[k]? = w.heap[k]?

theorem Mods.refl (S : List Nat) (w : World) : Mods S w w := ⟨rfl, rfl, rfl, Nat.le_refl _, fun _ _ _ => rfl⟩
theorem Mods.trans {S : List Nat} {a b c : World} (h : Mods S a b) (k : Mods S b c) : Mods S a c :=
  ⟨k.os.trans h.os, k.tape.trans h.tape, k.output.trans h.output, Nat.le_trans h.size k.size, fun i hi hs => (k.block i (Nat.lt_of_lt_of_le hi h.size) hs).trans (h.block i hi hs)⟩
/-- The second call may turn what is new since the first began. -/
theorem Mods.trans_new {S R : List Nat} {a b c : World} (h : Mods S a b) (k : Mods R b c) (hR : ∀ r ∈ R, r ∈ S ∨ a.heap.size ≤ r) : Mods S a c :=
  ⟨k.os.trans h.os, k.tape.trans h.tape, k.output.trans h.output, Nat.le_trans h.size k.size, fun i hi hs => (k.block i (Nat.lt_of_lt_of_le hi h.size) (fun hr => by rcases hR i hr with h1 | h1; exact hs h1; omega)).trans (h.block i hi hs)⟩
theorem Mods.mono {S R : List Nat} {w w' : World} (h : Mods S w w') (hs : ∀ k ∈ S, k ∈ R) : Mods R w w' := ⟨h.os, h.tape, h.output, h.size, fun k hk hn => h.block k hk (fun hm => hn (hs k hm))⟩
theorem Mods.drew {S : List Nat} {a w : World} (h : Mods S a w) : Mods S a w.drew := ⟨h.os, h.tape, h.output, h.size, h.block⟩
theorem heap_drewN (w : World) (n : Nat) : (w.drewN n).heap = w.heap := by
  induction n generalizing w with
  | zero => rfl
  | succ n ih => rw [← World.drew_drewN]; exact ih _
theorem Mods.drewN {S : List Nat} {a w : World} (h : Mods S a w) (n : Nat) : Mods S a (w.drewN n) := ⟨h.os, h.tape, h.output, by rw [heap_drewN]; exact h.size, fun k hk hs => by rw [heap_drewN]; exact h.block k hk hs⟩
theorem Mods.alloc {S : List Nat} {a w : World} (h : Mods S a w) (o : Obj) : Mods S a (w.alloc o) :=
  h.trans ⟨rfl, rfl, rfl, by simp, fun k hk _ => Below.heap_alloc _ _ _ hk⟩
theorem Mods.setCell {S : List Nat} {a w : World} (h : Mods S a w) {p : Addr} (hp : p.block ∈ S ∨ a.heap.size ≤ p.block) (u : Value) : Mods S a (w.setCell p u) :=
  h.trans_new (R := [p.block]) ⟨rfl, rfl, rfl, by simp [World.setCell], fun k _ hs => Below.heap_setCell _ _ _ _ (by simpa using hs)⟩ (by simpa using hp)
theorem Mods.grown {S : List Nat} {a w w' : World} {row : Option Nat} (h : Mods S a w) (hg : w.grownBy w' row) (hr : ∀ k, row = some k → k ∈ S ∨ a.heap.size ≤ k) : Mods S a w' :=
  h.trans_new (R := row.toList) ⟨hg.os, hg.tape, hg.output, hg.size, fun k hk hs => hg.block k hk (fun e => hs (by rw [← e]; simp))⟩ (fun r hrr => hr r (by simpa using hrr))
theorem Mods.below {w w' : World} (h : Mods [] w w') : Below w.heap.size w w' := ⟨h.os, h.tape, h.output, h.size, fun k hk => h.block k hk (by simp)⟩
theorem Mods.of_below {w w' : World} (h : Below w.heap.size w w') (S : List Nat) : Mods S w w' := ⟨h.os, h.tape, h.output, h.size, fun k hk _ => h.block k hk⟩
theorem Below.then_mods {B : Nat} {a w w' : World} {S : List Nat} (h : Below B a w) (hB : B ≤ w.heap.size) (k : Mods S w w') (hS : ∀ s ∈ S, B ≤ s) : Below B a w' :=
  h.trans ⟨k.os, k.tape, k.output, k.size, fun i hi => k.block i (by omega) (fun hm => by have := hS i hm; omega)⟩

theorem w64 (n : Int) (h0 : -9223372036854775808 ≤ n) (h1 : n ≤ 9223372036854775807) : wrap64 n = n := by unfold wrap64; omega

/-! ### A block that is known whole -/
theorem cell_blk {w : World} {g : Nat} {cs : Array Value} {T : TypeId} (h : w.heap[g]? = some (.cells cs T (0, 0))) (i : Nat) : w.cell? ⟨g, i, none⟩ = cs[i]? := by
  simp [World.cell?, h]
theorem free_blk {w : World} {g : Nat} {cs : Array Value} {T : TypeId} (h : w.heap[g]? = some (.cells cs T (0, 0))) (i : Nat) : w.frozen? ⟨g, i, none⟩ = false := by
  simp [World.frozen?, h]
theorem blk_lt {w : World} {g : Nat} {o : Obj} (h : w.heap[g]? = some o) : g < w.heap.size := (Array.getElem?_eq_some_iff.1 h).1
theorem blk_set {w : World} {g : Nat} {cs : Array Value} {T : TypeId} (h : w.heap[g]? = some (.cells cs T (0, 0))) (i : Nat) (v : Value) : (w.setCell ⟨g, i, none⟩ v).heap[g]? = some (.cells (cs.setIfInBounds i v) T (0, 0)) := by
  simp [World.setCell, Array.getElem?_modify, h]
theorem blk_alloc {w : World} (o : Obj) : (w.alloc o).heap[w.heap.size]? = some o := heap_alloc_new w o
theorem Mods.blk {S : List Nat} {w w' : World} (h : Mods S w w') {g : Nat} {o : Obj} (hg : w.heap[g]? = some o) (hs : g ∉ S) : w'.heap[g]? = some o := (h.block g (blk_lt hg) hs).trans hg

theorem ReadsInt.mods {S : List Nat} {w w1 : World} {k : IntKind} {A : Option Addr} {n : Nat} {xs : List Int} (h : ReadsInt w k A n xs) (hb : Mods S w w1) (hs : ∀ ad, A = some ad → ad.block ∉ S) : ReadsInt w1 k A n xs :=
  ⟨h.1, h.2.1, fun hn => by
    obtain ⟨ad, e, hc⟩ := h.2.2 hn
    refine ⟨ad, e, fun j hj => ?_⟩
    have h1 := hc j hj
    have hbl : (ad.add j).block = ad.block := by unfold Addr.add; split <;> rfl
    refine (World.cell?_of_block (w := w) ?_).trans h1
    exact hb.block _ (World.block_lt_of_cell? w _ h1) (by rw [hbl]; exact hs ad e)⟩

/-- What a row's frame tells of a slice of integers that came in: nil, or a row of cap cells of which the first len are its elements. -/
def IsRow (k : IntKind) (w : World) (a : Option Addr) (len cap : Nat) (zs : List Int) : Prop :=
  (a = none ∧ len = 0 ∧ cap = 0 ∧ zs = []) ∨
  ∃ x, a = some x ∧ len ≤ cap ∧ cap ≤ maxLen ∧ zs.length = cap ∧ (∀ i, i < zs.length → w.cell? (x.add i) = some (.int k (zs.getD i 0))) ∧ ∀ n ∈ zs, (Lit.int k n).wf = true
theorem IsRow.reads {k : IntKind} {w : World} {a : Option Addr} {len cap : Nat} {zs : List Int} (h : IsRow k w a len cap zs) :
    len ≤ cap ∧ ReadsInt w k a len (zs.take len) ∧ ∀ n ∈ zs.take len, (Lit.int k n).wf = true := by
  rcases h with ⟨rfl, rfl, rfl, rfl⟩ | ⟨x, rfl, hl, hm, hz, hc, hw⟩
  · exact ⟨Nat.le_refl _, ⟨rfl, by omega, fun h => absurd h (by omega)⟩, by simp⟩
  · refine ⟨hl, ⟨by rw [List.length_take]; omega, by unfold maxLen at hm; omega, fun _ => ⟨x, rfl, fun j hj => ?_⟩⟩, fun n hn => hw n (List.mem_of_mem_take hn)⟩
    rw [hc j (by omega)]
    simp [List.getD_eq_getElem?_getD, hj]
theorem wf_u8 {n : Int} (h : (Lit.int .u8 n).wf = true) : 0 ≤ n ∧ n ≤ 255 := by
  simp [Lit.wf, IntKind.min, IntKind.max, IntKind.bits, IntKind.signed] at h; omega
theorem wf_i64 {n : Int} (h : (Lit.int .i64 n).wf = true) : -9223372036854775808 ≤ n ∧ n ≤ 9223372036854775807 := by
  simp [Lit.wf, IntKind.min, IntKind.max, IntKind.bits, IntKind.signed] at h; omega
theorem wf_u16 {n : Int} (h : (Lit.int .u16 n).wf = true) : 0 ≤ n ∧ n ≤ 65535 := by
  simp [Lit.wf, IntKind.min, IntKind.max, IntKind.bits, IntKind.signed] at h; omega
theorem wf_u32 {n : Int} (h : (Lit.int .u32 n).wf = true) : 0 ≤ n ∧ n ≤ 4294967295 := by
  simp [Lit.wf, IntKind.min, IntKind.max, IntKind.bits, IntKind.signed] at h; omega

/-- A literal list of numbers. -/
theorem reads_lit (W : World) (e : TypeId) (k : IntKind) (xs : List Int) (hm : xs.length ≤ 9223372036854775807) :
    ReadsInt (W.alloc (.cells (xs.map (Value.int k)).toArray e)) k (some ⟨W.heap.size, 0, none⟩) xs.length xs := by
  refine ⟨rfl, hm, fun _ => ⟨_, rfl, fun j hj => ?_⟩⟩
  rw [add_plain]
  show (W.alloc (.cells (xs.map (Value.int k)).toArray e)).cell? ⟨W.heap.size, j, none⟩ = _
  simp only [World.cell?, blk_alloc]
  simp [List.getElem?_eq_getElem hj, List.getD_eq_getElem?_getD]
end Go.Proofs.Ytbljoihnjhllhaa

/- The rows of the program's table of types that the walks ask. -/
namespace Go.Proofs.Ytbljoihnjhllhaa
theorem info_u8 : (Try.prog.info? 5).map (fun i => (i.zero, i.size, i.bytes)) = some (some (.int .u8 0), 1, 1) := by kernel_rfl
theorem info_int : (Try.prog.info? 3).map (fun i => (i.zero, i.size, i.bytes)) = some (some (.int .i64 0), 1, 8) := by kernel_rfl
theorem info_u32 : (Try.prog.info? 31).map (fun i => (i.zero, i.size, i.bytes)) = some (some (.int .u32 0), 1, 4) := by kernel_rfl
end Go.Proofs.Ytbljoihnjhllhaa

/- Boxes, results that lie in them. -/
namespace Go.Proofs.Ytbljoihnjhllhaa
open Go.RowKit
open Go.Proofs.YtbljoihnjhllhaaW.PrintWords

theorem alloc_new (w : World) (xs : Array Value) (e : TypeId) : (w.alloc (.cells xs e)).heap[w.heap.size]? = some (.cells xs e (0, 0)) := by
  show (w.heap.push _)[w.heap.size]? = _
  simp
/-- A result that lies in a box of its own, and a second one. -/
theorem results_box {P : Program} {fn : Func} {p u : Tmp} {ty : TypeId} (h : fn.results = #[.cell p ty, .tmp u]) (tmps : Array Value) (w : World) (g : Nat) (t : TypeId) (cs : Array Value) (fr : Nat × Nat) (d : TypeDesc)
    (hp : tmps.getD p undef = .pointer (some ⟨g, 0, none⟩)) (hg : w.heap[g]? = some (.cells cs t fr))
    (hu : P.underlying ty = some d) (hd : (match d with | .struct _ | .array _ _ => true | _ => false) = true) (hi : (P.info? ty).map (·.size) = some cs.size) :
    (results fn tmps).run P w = .ok (.tuple #[.agg cs, tmps.getD u undef]) w := by
  rw [results_cell_tmp h, hp, show (asAddr (Value.pointer (some ⟨g, 0, none⟩))).run P w = .ok ⟨g, 0, none⟩ w from rfl]
  simp only [Result.andThen]
  rw [run_loadVar_row w g t ty cs fr d hg hu hd hi]
theorem results_oneK {P : Program} {fn : Func} {p : Tmp} {ty : TypeId} (h : fn.results = #[.cell p ty]) (tmps : Array Value) (w : World) (g : Nat) (t : TypeId) (cs : Array Value) (fr : Nat × Nat) (d : TypeDesc)
    (hp : tmps.getD p undef = .pointer (some ⟨g, 0, none⟩)) (hg : w.heap[g]? = some (.cells cs t fr))
    (hu : P.underlying ty = some d) (hd : (match d with | .struct _ | .array _ _ => true | _ => false) = true) (hi : (P.info? ty).map (·.size) = some cs.size) :
    (results fn tmps).run P w = .ok (.agg cs) w := by
  have : (results fn tmps).run P w = ((asAddr (tmps.getD p undef)).run P w).andThen fun a w₁ => (loadVar ty a).run P w₁ := by
    simp only [results, h]
    simp [Sem.run_bind, Result.andThen]
  rw [this, hp, show (asAddr (Value.pointer (some ⟨g, 0, none⟩))).run P w = .ok ⟨g, 0, none⟩ w from rfl]
  simp only [Result.andThen]
  rw [run_loadVar_row w g t ty cs fr d hg hu hd hi]
theorem results_tmp4 {fn : Func} {t u v x : Tmp} (h : fn.results = #[.tmp t, .tmp u, .tmp v, .tmp x]) (tmps : Array Value) (P : Program) (w : World) :
    (results fn tmps).run P w = .ok (.tuple #[tmps.getD t undef, tmps.getD u undef, tmps.getD v undef, tmps.getD x undef]) w := by
  simp [results, h]
end Go.Proofs.Ytbljoihnjhllhaa

/- lens.noughtsOf: some noughts as steps. -/
namespace Go.Proofs.Ytbljoihnjhllhaa
open Go.RowKit
open Go.Proofs.YtbljoihnjhllhaaW.PrintWords

/-- The cells of steps. -/
def stC (l : List Lw.St) : List Value := l.flatMap fun st => [.int .i64 st.1, .int .i64 st.2.1, .int .i64 st.2.2]
theorem stC_len (l : List Lw.St) : (stC l).length = l.length * 3 := by
  induction l with
  | nil => rfl
  | cons a t ih =>
    have e : stC (a :: t) = [.int .i64 a.1, .int .i64 a.2.1, .int .i64 a.2.2] ++ stC t := rfl
    rw [e, List.length_append, ih, List.length_cons]; simp; omega

set_option maxHeartbeats 1000000 in
theorem mul64_1 (k : Int) (w : World) (hk : k = 1 ∨ k = 2) :
    Calls Try.prog 73 #[.int .u64 1, .int .u64 k] w fun e w' => e = .returned (.tuple #[.int .u64 0, .int .u64 k]) ∧ w' = w := by
  rcases hk with rfl | rfl
  · go_enter Try.func73, Try.ntmps73
    go_wp2
    go_ret2
    exact ⟨rfl, rfl⟩
  · go_enter Try.func73, Try.ntmps73
    go_wp2
    go_ret2
    exact ⟨rfl, rfl⟩

set_option maxHeartbeats 1000000 in
theorem noughts_more (n : Nat) (w : World) (h : 3 ≤ n) (h2 : n ≤ 138) :
    Calls Try.prog 47 #[.int .i64 n] w fun e w' => ∃ v, e = .returned v ∧ w'.ownsRow w.heap.size 70 3 v (Lw.nought n).length (stC (Lw.nought n)) ∧ Below w.heap.size w w' := by
  have d1 : decide ((n : Int) < 3) = false := decide_eq_false (by omega)
  by_cases h11 : n < 11
  · have d2 : decide ((n : Int) < 11) = true := decide_eq_true (by omega)
    have e1 : wrap64 ((n : Int) - 3) = (n : Int) - 3 := w64 _ (by omega) (by omega)
    have HN := Lib.hid (show Lw.nought n = [(17, (n : Int) - 3, 3)] from by unfold Lw.nought; rw [if_neg (by omega), if_pos h11])
    go_enter Try.func47, Try.ntmps47
    go_wp2
    go_ret
    refine ⟨_, rfl, ?_, (Below.refl _ _).alloc (Nat.le_refl _) _⟩
    rw [HN.out]
    exact World.ownsRow_lit (base := w.heap.size) (e := 70) (size := 3) w #[.int .i64 17, .int .i64 ((n : Int) - 3), .int .i64 3] 1 (Nat.le_refl _) (by simp [maxLen]) (by simp)
  · have d2 : decide ((n : Int) < 11) = false := decide_eq_false (by omega)
    have e1 : wrap64 ((n : Int) - 11) = (n : Int) - 11 := w64 _ (by omega) (by omega)
    have HN := Lib.hid (show Lw.nought n = [(18, (n : Int) - 11, 7)] from by unfold Lw.nought; rw [if_neg (by omega), if_neg h11])
    go_enter Try.func47, Try.ntmps47
    go_wp2
    go_ret
    refine ⟨_, rfl, ?_, (Below.refl _ _).alloc (Nat.le_refl _) _⟩
    rw [HN.out]
    exact World.ownsRow_lit (base := w.heap.size) (e := 70) (size := 3) w #[.int .i64 18, .int .i64 ((n : Int) - 11), .int .i64 7] 1 (Nat.le_refl _) (by simp [maxLen]) (by simp)
set_option maxHeartbeats 1000000 in
theorem mul_1 (k : Int) (w : World) (hk : k = 1 ∨ k = 2) :
    Calls Try.prog 68 #[.int .u64 1, .int .u64 k] w fun e w' => e = .returned (.tuple #[.int .u64 0, .int .u64 k]) ∧ w' = w := by
  have h0 : 0 ≤ k ∧ k < 100 := by omega
  have HM := Lib.hid (mul64_1 k w hk)
  clear hk
  go_enter Try.func68, Try.ntmps68
  go_wp2_with fail
  refine HM.out.mono ?_
  rintro e w' ⟨rfl, rfl⟩
  go_wp2_with fail
  go_ret2
  exact ⟨rfl, rfl⟩

theorem info_step : (Try.prog.info? 70).map (fun i => (i.zero, i.size, i.bytes)) = some (some (.agg #[.int .i64 0, .int .i64 0, .int .i64 0]), 3, 24) := by kernel_rfl
theorem make_step (n : Nat) (hn : n ≤ 2) (W : World) : (Instr.makeSlice 67 (.int .i64 (n : Int)) (.int .i64 (n : Int))).run Try.prog W = .ok (.slice (some ⟨W.heap.size, 0, none⟩) n n) (W.alloc (.cells (madeCells #[.int .i64 0, .int .i64 0, .int .i64 0] (n * 3)) 70)) := by
  obtain ⟨i, hi, hzz⟩ := Option.map_eq_some_iff.1 info_step
  simp only [Prod.mk.injEq] at hzz
  obtain ⟨hz, hs, hb⟩ := hzz
  have hr := run_make (P := Try.prog) W 67 70 i _ Try.underlying67 hi hz .i64 .i64 n n (by omega) (Int.le_refl _) (by rw [hb]; omega) (by omega)
  simp only [Int.toNat_natCast, hs] at hr
  exact hr
/-- A copy of rows of any size. -/
theorem run_copy_sz {P : Program} (w : World) (dT sT ty elem : TypeId) (g o dLen dCap : Nat) (a : Addr) (sLen sCap sz : Nat) (cur : Array Value) (t : TypeId) (cs : List Value)
    (hu : P.underlying dT = some (.slice elem)) (hs : (P.info? elem).map (·.size) = some sz)
    (hg : w.heap[g]? = some (.cells cur t (0, 0))) (hn : cs.length = Nat.min sLen dLen * sz)
    (hsrc : ∀ j v, cs[j]? = some v → w.cell? (a.add j) = some v) (hfit : o + cs.length ≤ cur.size) (h1 : ∀ v ∈ cs, v.oneCell' = true) :
    (Builtin.copy_ #[dT, sT] ty #[.slice (some ⟨g, o, none⟩) dLen dCap, .slice (some a) sLen sCap]).run P w =
      .ok (goInt (Nat.min sLen dLen)) (w.setRow g (cur.toList.take o ++ cs ++ cur.toList.drop (o + cs.length)).toArray) := by
  have hl := run_firstCells_some (P := P) (w := w) sz (Nat.min sLen dLen) a sLen sCap cs hn hsrc
  have hst := run_storeCells_at P g o t cs 0 cur w hg (by simpa using hfit) h1
  cases hq : P.info? elem with
  | none => simp [hq] at hs
  | some i =>
    have hi : i.size = sz := by simpa [hq] using hs
    simp [Builtin.copy_, run_underlying hu, Builtin.lenOf, sizeOf, typeInfo, hq, hi, hl, hst]
set_option maxHeartbeats 1000000 in
set_option maxRecDepth 100000 in
theorem repeat_1 (b : Nat) (w : World) (hb : w.heap[b]? = some (.cells #[.int .i64 0, .int .i64 0, .int .i64 0] 70 (0, 0))) :
    Calls Try.prog 59 #[.slice (some ⟨b, 0, none⟩) 1 1, .int .i64 1] w fun e w' => ∃ v, e = .returned v ∧ w'.ownsRow w.heap.size 70 3 v 1 (stC [(0, 0, 0)]) ∧ Below w.heap.size w w' := by
  have hlt := blk_lt hb
  have hO := Lib.hid (World.ownsRow_lit (base := w.heap.size) (e := 70) (size := 3) w #[.int .i64 0, .int .i64 0, .int .i64 0] 1 (Nat.le_refl _) (by simp [maxLen]) (by simp))
  have hBl := Lib.hid ((Below.refl w.heap.size w).alloc (Nat.le_refl _) (.cells #[.int .i64 0, .int .i64 0, .int .i64 0] 70))
  have hmk := make_step 1 (by omega)
  rw [show madeCells #[Value.int .i64 0, .int .i64 0, .int .i64 0] (1 * 3) = #[.int .i64 0, .int .i64 0, .int .i64 0] from by first | kernel_rfl | decide | (simp [madeCells]; done) | (unfold madeCells; rfl)] at hmk
  have hg := alloc_new w #[.int .i64 0, .int .i64 0, .int .i64 0] 70
  have hb1 : (w.alloc (.cells #[.int .i64 0, .int .i64 0, .int .i64 0] 70)).heap[b]? = some (.cells #[.int .i64 0, .int .i64 0, .int .i64 0] 70 (0, 0)) := by
    rw [Below.heap_alloc _ _ _ hlt]; exact hb
  have hcp : ∀ ty, (Builtin.copy_ #[67, 67] ty #[.slice (some ⟨w.heap.size, 0, none⟩) 1 1, .slice (some ⟨b, 0, none⟩) 1 1]).run Try.prog (w.alloc (.cells #[.int .i64 0, .int .i64 0, .int .i64 0] 70)) = .ok (.int .i64 1) (w.alloc (.cells #[.int .i64 0, .int .i64 0, .int .i64 0] 70)) := by
    intro ty
    have h := run_copy_sz (P := Try.prog) (w.alloc (.cells #[.int .i64 0, .int .i64 0, .int .i64 0] 70)) 67 67 ty 70 w.heap.size 0 1 1 ⟨b, 0, none⟩ 1 1 3 #[.int .i64 0, .int .i64 0, .int .i64 0] 70 [.int .i64 0, .int .i64 0, .int .i64 0] Try.underlying67 (by kernel_rfl) hg (by rfl) (fun j v hj => by
      rw [add_plain, cell_blk (by simpa using hb1)]; simpa using hj) (by simp) (by simp [Value.oneCell'])
    rw [h]
    have e : (([].take 0 ++ [Value.int .i64 0, .int .i64 0, .int .i64 0] ++ []).toArray) = #[Value.int .i64 0, .int .i64 0, .int .i64 0] := rfl
    show Result.ok (goInt 1) (World.setRow _ _ #[Value.int .i64 0, .int .i64 0, .int .i64 0]) = _
    rw [setRow_self _ _ _ _ _ hg]
    rfl
  have HCP := Lib.hid hcp
  clear hb hb1 hg
  generalize hW : w.alloc (.cells #[.int .i64 0, .int .i64 0, .int .i64 0] 70) = W1 at *
  have hmk1 : (Instr.makeSlice 67 (.int .i64 1) (.int .i64 1)).run Try.prog w = .ok (.slice (some ⟨w.heap.size, 0, none⟩) 1 1) (w.alloc (.cells #[.int .i64 0, .int .i64 0, .int .i64 0] 70)) := hmk w
  rw [hW] at hmk1
  have HMK := Lib.hid hmk1
  clear hmk hmk1 hcp hW
  have hcp := HCP.out
  have hmk := HMK.out
  go_enter Try.func59, Try.ntmps59
  go_wp2_with fail
  refine (mul_1 1 w (.inl rfl)).mono ?_
  rintro e w' ⟨rfl, rfl⟩
  go_wp2_with fail
  go_loopw [8] (fun n wr => n = .int .i64 1 ∧ wr = W1) (fun _ _ => 0)
  case atStart => exact ⟨rfl, rfl⟩
  case round =>
    obtain ⟨rfl, rfl⟩ := hrel
    go_wp2_with fail
    go_ret
    exact ⟨_, rfl, hO.out, hBl.out⟩
end Go.Proofs.Ytbljoihnjhllhaa

/- slices.Repeat of a step, twice. -/
namespace Go.Proofs.Ytbljoihnjhllhaa
open Go.RowKit
open Go.Proofs.YtbljoihnjhllhaaW.PrintWords

theorem size_step (W : World) : (sizeOf (Try.prog.elem 67)).run Try.prog W = .ok 3 W := by
  obtain ⟨i, hi, hzz⟩ := Option.map_eq_some_iff.1 info_step
  simp only [Prod.mk.injEq] at hzz
  have he : Try.prog.elem 67 = 70 := by kernel_rfl
  simp [sizeOf, typeInfo, he, hi, hzz.2.1]
theorem cut_stepL (g : Nat) (W : World) : (Instr.slice 67 (.slice (some ⟨g, 0, none⟩) 2 2) (some (.int .i64 1)) none none).run Try.prog W = .ok (.slice (some ⟨g, 3, none⟩) 1 1) W := by
  have hel : Try.prog.underlying 67 = some (.slice (Try.prog.elem 67)) := by kernel_rfl
  rw [run_slice_l W 67 (some ⟨g, 0, none⟩) 2 2 hel .i64 1 (by decide) (by decide), size_step]
  simp [sliced, Addr.add]
theorem low_stepL (g : Nat) (W : World) : (Instr.slice 67 (.slice (some ⟨g, 0, none⟩) 2 2) none (some (.int .i64 1)) none).run Try.prog W = .ok (.slice (some ⟨g, 0, none⟩) 1 2) W := by
  have hel : Try.prog.underlying 67 = some (.slice (Try.prog.elem 67)) := by kernel_rfl
  rw [run_slice_h W 67 (some ⟨g, 0, none⟩) 2 2 hel .i64 1 (by decide) (by decide), size_step]
  simp [sliced, Addr.add]
set_option maxHeartbeats 1000000 in
set_option maxRecDepth 100000 in
theorem repeat_2 (b : Nat) (w : World) (hb : w.heap[b]? = some (.cells #[.int .i64 0, .int .i64 0, .int .i64 0] 70 (0, 0))) :
    Calls Try.prog 59 #[.slice (some ⟨b, 0, none⟩) 1 1, .int .i64 2] w fun e w' => ∃ v, e = .returned v ∧ w'.ownsRow w.heap.size 70 3 v 2 (stC [(0, 0, 0), (0, 0, 0)]) ∧ Below w.heap.size w w' := by
  have hlt := blk_lt hb
  have hO := Lib.hid (World.ownsRow_lit (base := w.heap.size) (e := 70) (size := 3) w #[.int .i64 0, .int .i64 0, .int .i64 0, .int .i64 0, .int .i64 0, .int .i64 0] 2 (Nat.le_refl _) (by simp [maxLen]) (by simp))
  have hBl := Lib.hid ((Below.refl w.heap.size w).alloc (Nat.le_refl _) (.cells #[.int .i64 0, .int .i64 0, .int .i64 0, .int .i64 0, .int .i64 0, .int .i64 0] 70))
  have hmk := make_step 2 (by omega)
  rw [show madeCells #[Value.int .i64 0, .int .i64 0, .int .i64 0] (2 * 3) = #[Value.int .i64 0, .int .i64 0, .int .i64 0, .int .i64 0, .int .i64 0, .int .i64 0] from by first | kernel_rfl | decide | (simp [madeCells]; done) | (unfold madeCells; rfl)] at hmk
  have hg := alloc_new w #[.int .i64 0, .int .i64 0, .int .i64 0, .int .i64 0, .int .i64 0, .int .i64 0] 70
  have hb1 : (w.alloc (.cells #[.int .i64 0, .int .i64 0, .int .i64 0, .int .i64 0, .int .i64 0, .int .i64 0] 70)).heap[b]? = some (.cells #[.int .i64 0, .int .i64 0, .int .i64 0] 70 (0, 0)) := by
    rw [Below.heap_alloc _ _ _ hlt]; exact hb
  have hcp : ∀ ty, (Builtin.copy_ #[67, 67] ty #[.slice (some ⟨w.heap.size, 0, none⟩) 2 2, .slice (some ⟨b, 0, none⟩) 1 1]).run Try.prog (w.alloc (.cells #[.int .i64 0, .int .i64 0, .int .i64 0, .int .i64 0, .int .i64 0, .int .i64 0] 70)) = .ok (.int .i64 1) (w.alloc (.cells #[.int .i64 0, .int .i64 0, .int .i64 0, .int .i64 0, .int .i64 0, .int .i64 0] 70)) := by
    intro ty
    have h := run_copy_sz (P := Try.prog) (w.alloc (.cells #[.int .i64 0, .int .i64 0, .int .i64 0, .int .i64 0, .int .i64 0, .int .i64 0] 70)) 67 67 ty 70 w.heap.size 0 2 2 ⟨b, 0, none⟩ 1 1 3 #[.int .i64 0, .int .i64 0, .int .i64 0, .int .i64 0, .int .i64 0, .int .i64 0] 70 [.int .i64 0, .int .i64 0, .int .i64 0] Try.underlying67 (by kernel_rfl) hg (by rfl) (fun j v hj => by
      rw [add_plain, cell_blk (by simpa using hb1)]; simpa using hj) (by simp) (by simp [Value.oneCell'])
    rw [h]
    show Result.ok (goInt 1) (World.setRow _ _ #[.int .i64 0, .int .i64 0, .int .i64 0, .int .i64 0, .int .i64 0, .int .i64 0]) = _
    rw [setRow_self _ _ _ _ _ hg]
    rfl
  have hgd : ((w.alloc (.cells #[.int .i64 0, .int .i64 0, .int .i64 0, .int .i64 0, .int .i64 0, .int .i64 0] 70)).drew).heap[w.heap.size]? = some (.cells #[.int .i64 0, .int .i64 0, .int .i64 0, .int .i64 0, .int .i64 0, .int .i64 0] 70 (0, 0)) := hg
  have hcp2 : ∀ ty, (Builtin.copy_ #[67, 67] ty #[.slice (some ⟨w.heap.size, 3, none⟩) 1 1, .slice (some ⟨w.heap.size, 0, none⟩) 1 2]).run Try.prog ((w.alloc (.cells #[.int .i64 0, .int .i64 0, .int .i64 0, .int .i64 0, .int .i64 0, .int .i64 0] 70)).drew) = .ok (.int .i64 1) ((w.alloc (.cells #[.int .i64 0, .int .i64 0, .int .i64 0, .int .i64 0, .int .i64 0, .int .i64 0] 70)).drew) := by
    intro ty
    have h := run_copy_sz (P := Try.prog) ((w.alloc (.cells #[.int .i64 0, .int .i64 0, .int .i64 0, .int .i64 0, .int .i64 0, .int .i64 0] 70)).drew) 67 67 ty 70 w.heap.size 3 1 1 ⟨w.heap.size, 0, none⟩ 1 2 3 #[.int .i64 0, .int .i64 0, .int .i64 0, .int .i64 0, .int .i64 0, .int .i64 0] 70 [.int .i64 0, .int .i64 0, .int .i64 0] Try.underlying67 (by kernel_rfl) hgd (by rfl) (fun j v hj => by
      have hj3 : j < 3 := by
        rcases Nat.lt_or_ge j 3 with q | q
        · exact q
        · rw [List.getElem?_eq_none (by simpa using q)] at hj; cases hj
      rw [add_plain, cell_blk (by simpa using hgd)]
      rcases (show j = 0 ∨ j = 1 ∨ j = 2 by omega) with rfl | rfl | rfl <;> simpa using hj) (by simp) (by simp [Value.oneCell'])
    rw [h]
    show Result.ok (goInt 1) (World.setRow _ _ #[.int .i64 0, .int .i64 0, .int .i64 0, .int .i64 0, .int .i64 0, .int .i64 0]) = _
    rw [setRow_self _ _ _ _ _ hgd]
    rfl
  have HCP := Lib.hid hcp
  have HCP2 := Lib.hid hcp2
  clear hb hb1 hg hgd hcp hcp2
  generalize hW : w.alloc (.cells #[.int .i64 0, .int .i64 0, .int .i64 0, .int .i64 0, .int .i64 0, .int .i64 0] 70) = W1 at *
  have hmk1 : (Instr.makeSlice 67 (.int .i64 2) (.int .i64 2)).run Try.prog w = .ok (.slice (some ⟨w.heap.size, 0, none⟩) 2 2) (w.alloc (.cells #[.int .i64 0, .int .i64 0, .int .i64 0, .int .i64 0, .int .i64 0, .int .i64 0] 70)) := hmk w
  rw [hW] at hmk1
  have HMK := Lib.hid hmk1
  clear hmk hmk1 hW
  have hcp := HCP.out
  have hcp2 := HCP2.out
  have hc1 := cut_stepL w.heap.size
  have hc2 := low_stepL w.heap.size
  have hmk := HMK.out
  go_enter Try.func59, Try.ntmps59
  go_wp2_with fail
  refine (mul_1 2 w (.inr rfl)).mono ?_
  rintro e w' ⟨rfl, rfl⟩
  go_wp2_with fail
  go_loopw [8] (fun n wr => (n = .int .i64 1 ∧ wr = W1) ∨ (n = .int .i64 2 ∧ wr = W1.drew)) (fun n _ => 2 - (intOf n).toNat)
  case atStart => exact .inl ⟨rfl, rfl⟩
  case round =>
    rcases hrel with ⟨rfl, rfl⟩ | ⟨rfl, rfl⟩
    · go_wp2_with fail
      go_region
      go_wp2_with fail
      go_roundw
      case rel => exact .inr ⟨rfl, trivial⟩
      case measure => decide
    · go_wp2_with fail
      go_ret
      exact ⟨_, rfl, hO.out, hBl.out.drew⟩
end Go.Proofs.Ytbljoihnjhllhaa

/- lens.noughtsOf of any number. -/
namespace Go.Proofs.Ytbljoihnjhllhaa
open Go.RowKit
open Go.Proofs.YtbljoihnjhllhaaW.PrintWords

set_option maxHeartbeats 1000000 in
theorem noughts_any (n : Nat) (w : World) (h : 1 ≤ n) (h2 : n ≤ 138) :
    Calls Try.prog 47 #[.int .i64 n] w fun e w' => ∃ v, e = .returned v ∧ w'.ownsRow w.heap.size 70 3 v (Lw.nought n).length (stC (Lw.nought n)) ∧ Below w.heap.size w w' := by
  by_cases h3 : 3 ≤ n
  · exact noughts_more n w h3 h2
  · have hg := Lib.hid (alloc_new w #[.int .i64 0, .int .i64 0, .int .i64 0] 70)
    have hB := Lib.hid ((Below.refl w.heap.size w).alloc (Nat.le_refl _) (.cells #[.int .i64 0, .int .i64 0, .int .i64 0] 70))
    have hz : Hid ((w.alloc (.cells #[.int .i64 0, .int .i64 0, .int .i64 0] 70)).heap.size = w.heap.size + 1) := Lib.hid (by simp)
    have hn : n = 1 ∨ n = 2 := by omega
    clear h h2 h3
    rcases hn with rfl | rfl
    · have HR := Lib.hid (repeat_1 w.heap.size _ hg.out)
      go_enter Try.func47, Try.ntmps47
      go_wp2_with fail
      refine HR.out.mono ?_
      rintro e w2 ⟨v, rfl, hO, hB2⟩
      rw [hz.out] at hO hB2
      have HO := Lib.hid (own_less hO (show w.heap.size ≤ w.heap.size + 1 by omega)); have HB2 := Lib.hid (hB.out.trans (hB2.mono (show w.heap.size ≤ w.heap.size + 1 by omega)))
      clear hO hB2
      go_wp2_with fail
      go_ret
      exact ⟨_, rfl, HO.out, HB2.out⟩
    · have HR := Lib.hid (repeat_2 w.heap.size _ hg.out)
      go_enter Try.func47, Try.ntmps47
      go_wp2_with fail
      refine HR.out.mono ?_
      rintro e w2 ⟨v, rfl, hO, hB2⟩
      rw [hz.out] at hO hB2
      have HO := Lib.hid (own_less hO (show w.heap.size ≤ w.heap.size + 1 by omega)); have HB2 := Lib.hid (hB.out.trans (hB2.mono (show w.heap.size ≤ w.heap.size + 1 by omega)))
      clear hO hB2
      go_wp2_with fail
      go_ret
      exact ⟨_, rfl, HO.out, HB2.out⟩
end Go.Proofs.Ytbljoihnjhllhaa
