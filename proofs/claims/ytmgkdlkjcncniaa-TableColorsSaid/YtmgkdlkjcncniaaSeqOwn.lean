/- An iterator that keeps state of its own in cells: its contract, and the law of a range over it. No program in sight. -/
import Derived.RangeFuncNested
import Derived.RangeFuncLeaves
import Derived.Below
namespace Go.Proofs.Ytmgkdlkjcncniaa
open Go Go.RowKit

/-- What a round leaves as it lay: whatever lies from B on, and the blocks of Ks. -/
structure Leaves (B : Nat) (Ks : List Nat) (W W' : World) : Prop where
  size : W.heap.size ≤ W'.heap.size
  same : ∀ k, (B ≤ k ∨ k ∈ Ks) → k < W.heap.size → W'.heap[k]? = W.heap[k]?
theorem Leaves.refl (B : Nat) (Ks : List Nat) (W : World) : Leaves B Ks W W := ⟨Nat.le_refl _, fun _ _ _ => rfl⟩
theorem Leaves.trans {B : Nat} {Ks : List Nat} {X Y Z : World} (h : Leaves B Ks X Y) (k : Leaves B Ks Y Z) : Leaves B Ks X Z :=
  ⟨Nat.le_trans h.size k.size, fun i hi hl => (k.same i hi (Nat.lt_of_lt_of_le hl h.size)).trans (h.same i hi hl)⟩
theorem Leaves.of_below {B : Nat} {Ks : List Nat} {W W' : World} (h : Below W.heap.size W W') : Leaves B Ks W W' := ⟨h.size, fun k _ hk => h.block k hk⟩
theorem Leaves.alloc {B : Nat} {Ks : List Nat} {X W : World} (h : Leaves B Ks X W) (o : Obj) : Leaves B Ks X (W.alloc o) := h.trans (Leaves.of_below ((Below.refl _ W).alloc (Nat.le_refl _) o))
theorem Leaves.drew {B : Nat} {Ks : List Nat} {X W : World} (h : Leaves B Ks X W) : Leaves B Ks X W.drew := ⟨h.size, h.same⟩
theorem Leaves.setCell {B : Nat} {Ks : List Nat} {X W : World} (h : Leaves B Ks X W) {p : Addr} (hp : X.heap.size ≤ p.block ∨ (p.block < B ∧ p.block ∉ Ks)) (v : Value) : Leaves B Ks X (W.setCell p v) :=
  ⟨Nat.le_trans h.size (by simp [World.setCell]), fun k hk hl => (Below.heap_setCell W p v k (fun e => by
    subst e
    rcases hp with hp | ⟨h1, h2⟩
    · omega
    · rcases hk with hk | hk
      · omega
      · exact h2 hk)).trans (h.same k hk hl)⟩
theorem Leaves.putObj {B : Nat} {Ks : List Nat} {X W : World} (h : Leaves B Ks X W) {l : Nat} (hl : l < B ∧ l ∉ Ks) (o : Obj) : Leaves B Ks X (W.putObj l o) :=
  ⟨Nat.le_trans h.size (by simp), fun k hk hlt => (World.putObj_heap_other (fun e => by
    subst e
    rcases hk with hk | hk
    · omega
    · exact hl.2 hk)).trans (h.same k hk hlt)⟩
theorem Leaves.mono {B B' : Nat} {Ks Ks' : List Nat} {X W : World} (h : Leaves B Ks X W) (hk : ∀ k, B' ≤ k ∨ k ∈ Ks' → B ≤ k ∨ k ∈ Ks) : Leaves B' Ks' X W := ⟨h.size, fun k h1 h2 => h.same k (hk k h1) h2⟩

/-- What speaks of the blocks below B alone. -/
def Local {β : Type} (B : Nat) (I : β → World → Prop) : Prop := ∀ s A C, I s A → Below B A C → I s C
theorem Local.mono {β : Type} {B B' : Nat} {I : β → World → Prop} (h : Local B I) (hB : B ≤ B') : Local B' I := fun s A C hs hb => h s A C hs (hb.mono hB)
theorem Local.and {β : Type} {B : Nat} {I K : β → World → Prop} (h : Local B I) (k : Local B K) : Local B (fun s W => I s W ∧ K s W) := fun s A C hs hb => ⟨h s A C hs.1 hb, k s A C hs.2 hb⟩
theorem Local.false {β : Type} {B : Nat} : Local B (fun (_ : β) (_ : World) => False) := fun _ _ _ h _ => h
theorem Local.below {β : Type} {B n : Nat} (w : World) (hn : n ≤ B) : Local B (fun (_ : β) W => Below n w W) := fun _ _ _ hs hb => hs.trans (hb.mono hn)

/-- THE CONTRACT OF AN ITERATOR THAT OWNS WHATEVER LIES FROM ITS CALL ON: a round leaves that as it lay (and the blocks of Ks); the caller's invariants speak of what lay ahead of the call. -/
def SeqOwn {α : Type} (F : Fence) (n : Nat) (P : Program) (g : Nat) (lb : Array Value) (encs : α → Array Value) (Ks : List Nat) (S Sp : List α → Prop) (N : Nat) (w : World) : Prop :=
  ∀ (l : Nat) (J Jx : List α → World → Prop) (W : World), Below w.heap.size w W → Local W.heap.size J → Local W.heap.size Jx →
    (∀ pre x W1, J pre W1 → W.heap.size ≤ W1.heap.size → pre.length < N → YieldAt F (n - 1) P l (encs x) W1 fun e W' =>
      ((e = .returned (.bool true) ∧ J (pre ++ [x]) W') ∨ (e = .returned (.bool false) ∧ Jx (pre ++ [x]) W')) ∧ Leaves W.heap.size Ks W1 W') →
    J [] W →
    CallsIn F n P g (#[.func (.yield l) #[] #[]] ++ lb) W fun e W' => (∃ v, e = .returned v) ∧ ((∃ xs, S xs ∧ J xs W') ∨ (∃ pre, Sp pre ∧ Jx pre W'))

/-- How a round may be left. -/
def seqPost {α : Type} (B : Nat) (Ks : List Nat) (I : List α → World → Prop) (Ix : Code → List α → World → Prop) (xs : List α) (W : World) : Exit → Act → World → Prop
  | .normal, _, W' => Leaves B Ks W W' ∧ I xs W'
  | .ret, _, W' => Leaves B Ks W W' ∧ Ix .ret xs W'
  | .exit id, _, W' => Leaves B Ks W W' ∧ Ix (.exit id) xs W'
  | .goto t, _, W' => Leaves B Ks W W' ∧ Ix (.goto t) xs W'
  | .panic _, _, _ => False
  | .outgrown, _, _ => False
/-- A loop's record. -/
def lrec (fn : FuncId) (tmps : Array Value) (ps : Array Tmp) (assign body : Code) (d : Nat) (s : LoopState) (j : Option Code) : Loop :=
  { state := s, pending := j, fn := fn, tmps := tmps, params := ps, assign := assign, body := body, defers := d }

variable {F : Fence} {n : Nat} {P : Program}

/-- THE LAW OF A RANGE OVER SUCH AN ITERATOR. -/
theorem wpIn_rangeFunc_seq {α : Type} {g : Operand} {ps : Array Tmp} {assign body : Code} {Q : Exit → Act → World → Prop} {a : Act} {w : World}
    (hro : F.round = none) (h1 : 1 ≤ n) {gf : Nat} {lb : Array Value} (hg : a.eval g = .func (.func gf) #[] lb) (hFg : F.fn gf) (eg : ∀ args w, (callFunc gf args).run P w = .ok (.enter gf args) w)
    {encs : α → Array Value} {Ks : List Nat} {S Sp : List α → Prop} {N : Nat} {w0 : World} (hseq : SeqOwn F (n - 1) P gf lb encs Ks S Sp N w0) (hb0 : Below w0.heap.size w0 w)
    (hKs : ∀ k ∈ Ks, k < w.heap.size) (hps : ∀ x, (encs x).size = ps.size)
    (I : List α → World → Prop) (Ix : Code → List α → World → Prop) (hI : Local w.heap.size I) (hIx : ∀ c, Local w.heap.size (Ix c)) (h0 : I [] w)
    (Ax : α → Act → World → Prop) (hAx : ∀ x a' W o, Ax x a' W → Ax x a' (W.putObj (w.heap.size + 1) o))
    (hassign : ∀ (l : Nat) (pre : List α) (x : α) (W : World) (K : Act → World → Prop), w.heap.size + 2 ≤ W.heap.size → I pre W → (∀ a' W', Leaves w.heap.size Ks W W' → I pre W' → Ax x a' W' → K a' W') →
      assign.wpIn (F.inRound l) (n - 1 - 1) P (Exit.then K (fun _ _ _ => False)) { tmps := (ps.zip (encs x)).foldl (fun t (p, v) => t.setIfInBounds p v) a.tmps, defers := [] } W)
    (hbody : ∀ (l : Nat) (pre : List α) (x : α) (a' : Act) (W : World), w.heap.size + 2 ≤ W.heap.size → I pre W → Ax x a' W → pre.length < N → body.wpIn (F.inRound l) (n - 1 - 1) P (seqPost w.heap.size Ks I Ix (pre ++ [x]) W) a' W)
    (hdone : ∀ (xs : List α) (W : World), S xs → I xs W → W.heap[w.heap.size]? = some (.deferred (some [])) → w.heap.size + 2 ≤ W.heap.size → Q .normal { a with defers := { target := .collected w.heap.size, args := #[] } :: a.defers } W)
    (hstop : ∀ (c : Code) (pre : List α) (W : World), Sp pre → Ix c pre W → W.heap[w.heap.size]? = some (.deferred (some [])) → w.heap.size + 2 ≤ W.heap.size → c.wpIn F n P Q { a with defers := { target := .collected w.heap.size, args := #[] } :: a.defers } W) :
    (Code.rangeFunc g ps assign body).wpIn F n P Q a w := by
  refine wpIn_rangeFunc fun fn hfn => ?_
  rw [hro]
  obtain ⟨B, hB⟩ : ∃ B, w.heap.size = B := ⟨_, rfl⟩
  rw [hB] at hKs hI hIx hAx hassign hbody hdone hstop
  have hent := run_enterLoop_outer (P := P) (w := w) fn a.tmps ps assign body
  rw [hB] at hent
  obtain ⟨rc, hrc⟩ : ∃ rc : LoopState → Option Code → Loop, rc = lrec fn a.tmps ps assign body B := ⟨_, rfl⟩
  have hent2 : (Instr.enterLoop fn a.tmps ps assign body none).run P w = .ok (B + 1, [{ target := .collected B, args := #[] }]) ((w.alloc (.deferred (some []))).alloc (.loop (rc .ready none))) := by rw [hrc]; exact hent
  clear hent
  have hd1 : ((w.alloc (.deferred (some []))).alloc (.loop (rc .ready none))).heap[B]? = some (.deferred (some [])) := by
    rw [← hB]; exact (Below.heap_alloc _ _ _ (by simp)).trans (World.alloc_heap_new w _)
  have hl1 : ((w.alloc (.deferred (some []))).alloc (.loop (rc .ready none))).heap[B + 1]? = some (.loop (rc .ready none)) := by
    rw [← hB]; have := World.alloc_heap_new (w.alloc (.deferred (some []))) (.loop (rc .ready none)); rwa [World.size_alloc] at this
  have hz1 : ((w.alloc (.deferred (some []))).alloc (.loop (rc .ready none))).heap.size = B + 2 := by simp [hB]
  have hb1 : Below B w ((w.alloc (.deferred (some []))).alloc (.loop (rc .ready none))) := by
    rw [← hB]; exact ((Below.refl _ w).alloc (Nat.le_refl _) _).alloc (by simp) _
  generalize (w.alloc (.deferred (some []))).alloc (.loop (rc .ready none)) = W1 at *
  have hroom : ∀ (W : World) (s : LoopState) (j : Option Code), W.heap[B + 1]? = some (.loop (rc s j)) → B + 2 ≤ W.heap.size := fun W s j h => by have := (Array.getElem?_eq_some_iff.1 h).1; omega
  refine ⟨B + 1, [{ target := .collected B, args := #[] }], W1, { target := .fn (.func gf) lb, args := #[.func (.yield (B + 1)) #[] #[]] }, W1, gf, #[.func (.yield (B + 1)) #[] #[]] ++ lb, W1, hent2, ?_, ?_, ?_, fun _ => h1, ?_⟩
  · simp only [resolve, hg]
    simp [go_sem]
  · intro f' hf'; simp [Target.leads] at hf'; subst hf'; exact hFg
  · simp [invoke, go_sem, eg]
  refine (hseq (B + 1) (fun pre W => I pre W ∧ W.heap[B + 1]? = some (.loop (rc .ready none)) ∧ W.heap[B]? = some (.deferred (some [])))
    (fun pre W => ∃ c, Ix c pre W ∧ W.heap[B + 1]? = some (.loop (rc .done (some c))) ∧ W.heap[B]? = some (.deferred (some [])))
    W1 (hb0.trans (by rw [← hB] at hb1; exact hb1.mono hb0.size)) ?locJ ?locJx ?round ⟨hI _ _ _ h0 hb1, hl1, hd1⟩).mono ?after
  case locJ =>
    rintro s A C ⟨h2, h3, h4⟩ hb
    rw [hz1] at hb
    exact ⟨hI _ _ _ h2 (hb.mono (by omega)), (hb.block _ (by omega)).trans h3, (hb.block _ (by omega)).trans h4⟩
  case locJx =>
    rintro s A C ⟨c, h2, h3, h4⟩ hb
    rw [hz1] at hb
    exact ⟨c, hIx c _ _ _ h2 (hb.mono (by omega)), (hb.block _ (by omega)).trans h3, (hb.block _ (by omega)).trans h4⟩
  case round =>
    rintro pre x W ⟨hi, hl, hd⟩ hsz hlen
    rw [hz1] at hsz ⊢
    have hy := run_yield (P := P) (args := encs x) hl (by rw [hrc]; exact hps x)
    rw [hrc] at hy
    refine ⟨fn, _, assign, body, hy, roundIn_of_wpIn hfn (hassign _ pre x W _ hsz hi ?_)⟩
    intro a' Wa hlv hia hax
    have hla := (hlv.same (B + 1) (.inl (by omega)) (by omega)).trans hl
    have hda := (hlv.same B (.inl (by omega)) (by omega)).trans hd
    have hza := hlv.size
    refine ⟨_, run_beginRound hla (by rw [hrc]; rfl), ?_⟩
    have hnot : B + 1 ∉ Ks := fun h => by have := hKs _ h; omega
    have hput : ∀ (X : World) (o : Obj), Below B X (X.putObj (B + 1) o) := fun X o => ⟨rfl, rfl, rfl, by simp, fun k hk => World.putObj_heap_other (by omega)⟩
    have hl2 : (Wa.putObj (B + 1) (.loop { rc .ready none with state := .busy })).heap[B + 1]? = some (.loop { rc .ready none with state := .busy }) := World.putObj_heap_same (by omega)
    have hd2 : (Wa.putObj (B + 1) (.loop { rc .ready none with state := .busy })).heap[B]? = some (.deferred (some [])) := (World.putObj_heap_other (by omega)).trans hda
    refine wpIn_mono (hbody (B + 1) pre x a' _ (by simp; omega) (hI _ _ _ hia (hput _ _)) (hAx _ _ _ _ hax) hlen) ?_
    have hz2 : B + 2 ≤ (Wa.putObj (B + 1) (.loop { rc .ready none with state := .busy })).heap.size := by simp; omega
    have hlv2 : Leaves (B + 2) Ks W (Wa.putObj (B + 1) (.loop { rc .ready none with state := .busy })) := (hlv.mono (fun k hk => hk.imp (by omega) id)).putObj ⟨by omega, hnot⟩ _
    generalize Wa.putObj (B + 1) (.loop { rc .ready none with state := .busy }) = W2 at *
    have fin : ∀ (j : Option Code) (W3 : World), Leaves B Ks W2 W3 → (Instr.endRound (B + 1) j).run P W3 = .ok (.bool j.isNone) (W3.putObj (B + 1) (.loop (rc (if j.isNone then .ready else .done) j))) ∧
        (W3.putObj (B + 1) (.loop (rc (if j.isNone then .ready else .done) j))).heap[B + 1]? = some (.loop (rc (if j.isNone then .ready else .done) j)) ∧
        (W3.putObj (B + 1) (.loop (rc (if j.isNone then .ready else .done) j))).heap[B]? = some (.deferred (some [])) ∧
        Leaves (B + 2) Ks W (W3.putObj (B + 1) (.loop (rc (if j.isNone then .ready else .done) j))) := fun j W3 h3 => by
      have hl3 := (h3.same (B + 1) (.inl (by omega)) (by omega)).trans hl2
      have hd3 := (h3.same B (.inl (by omega)) (by omega)).trans hd2
      have hr := run_endRound (P := P) j hl3
      rw [hrc] at hr
      refine ⟨by rw [hrc]; exact hr, World.putObj_heap_same (Array.getElem?_eq_some_iff.1 hl3).1, (World.putObj_heap_other (by omega)).trans hd3, ?_⟩
      exact (hlv2.trans (h3.mono (fun k hk => hk.imp (by omega) id))).putObj ⟨by omega, hnot⟩ _
    rintro e a3 W3 hp
    cases e with
    | normal =>
      obtain ⟨hk3, hi3⟩ := hp
      obtain ⟨hr, hl3, hd3, hlv3⟩ := fin none W3 hk3
      exact ⟨_, _, hr, .inl ⟨rfl, hI _ _ _ hi3 (hput _ _), hl3, hd3⟩, hlv3⟩
    | ret =>
      obtain ⟨hk3, hi3⟩ := hp
      obtain ⟨hr, hl3, hd3, hlv3⟩ := fin (some .ret) W3 hk3
      exact ⟨_, _, hr, .inr ⟨rfl, .ret, hIx _ _ _ _ hi3 (hput _ _), hl3, hd3⟩, hlv3⟩
    | exit id =>
      obtain ⟨hk3, hi3⟩ := hp
      obtain ⟨hr, hl3, hd3, hlv3⟩ := fin (some (.exit id)) W3 hk3
      exact ⟨_, _, hr, .inr ⟨rfl, .exit id, hIx _ _ _ _ hi3 (hput _ _), hl3, hd3⟩, hlv3⟩
    | goto t =>
      obtain ⟨hk3, hi3⟩ := hp
      obtain ⟨hr, hl3, hd3, hlv3⟩ := fin (some (.goto t)) W3 hk3
      exact ⟨_, _, hr, .inr ⟨rfl, .goto t, hIx _ _ _ _ hi3 (hput _ _), hl3, hd3⟩, hlv3⟩
    | panic ch => exact hp.elim
    | outgrown => exact hp.elim
  case after =>
    have hput : ∀ (X : World) (o : Obj), Below B X (X.putObj (B + 1) o) := fun X o => ⟨rfl, rfl, rfl, by simp, fun k hk => World.putObj_heap_other (by omega)⟩
    rintro e W2 ⟨⟨v, rfl⟩, (⟨xs, hS, hi, hl, hd⟩ | ⟨pre, hSp, c, hi, hl, hd⟩)⟩
    · have hz := hroom _ _ _ hl
      refine ⟨none, _, ?_, hdone xs _ hS (hI _ _ _ hi (hput W2 (.loop { rc .ready none with state := .exhausted }))) ((World.putObj_heap_other (by omega)).trans hd) (by simp; omega)⟩
      have := run_endLoop (P := P) hl (by rw [hrc]; simp [lrec]); rw [hrc] at this ⊢; exact this
    · have hz := hroom _ _ _ hl
      refine ⟨some c, _, ?_, hstop c pre _ hSp (hIx c _ _ _ hi (hput W2 (.loop { rc .done (some c) with state := .exhausted }))) ((World.putObj_heap_other (by omega)).trans hd) (by simp; omega)⟩
      have := run_endLoop (P := P) hl (by rw [hrc]; simp [lrec]); rw [hrc] at this ⊢; exact this
end Go.Proofs.Ytmgkdlkjcncniaa
