/- table.numbers: of each colour the first place. -/
import Derived.Test.YtmgkdlkjcncniaaTab3
import Derived.Test.YtmgkdlkjcncniaaTab4
import Derived.Maps.OwnIn
namespace Go.Proofs.Ytmgkdlkjcncniaa
open Go.RowKit Go.Maps
open Go.Proofs.YtmgkdlkjcncniaaW.PrintWords
attribute [local go_sem] Oper.semAt_some

def fi : List Int → Int → Option Nat
  | [], _ => none
  | x :: t, p => if x = p then some 0 else (fi t p).map (· + 1)
def foldD (ls : List Int) {m : Nat} (pre : List (Fin m)) : Dm := pre.foldl (fun D i => D.put (litU (ls.getD i.val 0)) (.lit (.int .i64 i.val))) (.map [])
structure NumsAt (D : Dm) (t : List Int) (off : Nat) : Prop where
  has : ∀ p, Maps.has D (litU p) = (fi t p).isSome
  at_ : ∀ p i, fi t p = some i → D.atKey (litU p) (.lit (.int .i64 0)) = .lit (.int .i64 ((off + i : Nat) : Int))
theorem foldD_map (ls : List Int) {m : Nat} (pre : List (Fin m)) : IsMap (foldD ls pre) := by
  have h : ∀ (pre : List (Fin m)) (D : Dm), IsMap D → IsMap (pre.foldl (fun D i => D.put (litU (ls.getD i.val 0)) (.lit (.int .i64 i.val))) D) := by
    intro pre
    induction pre with
    | nil => intro D h; exact h
    | cons i pre ih => intro D h; exact ih _ (h.put _ _)
  exact h pre _ isMap_empty
theorem foldD_snoc (ls : List Int) {m : Nat} (pre : List (Fin m)) (i : Fin m) : foldD ls (pre ++ [i]) = (foldD ls pre).put (litU (ls.getD i.val 0)) (.lit (.int .i64 i.val)) := by simp [foldD, List.foldl_append]
theorem nums_at (ls : List Int) (m : Nat) (hm : ls.length = m) : ∀ j, j ≤ m → NumsAt (foldD ls ((down m).take j)) (ls.drop (m - j)) (m - j) := by
  intro j
  induction j with
  | zero =>
    intro _
    rw [Nat.sub_zero, List.drop_of_length_le (by omega), List.take_zero]
    exact ⟨fun p => rfl, fun p i h => by cases h⟩
  | succ j ih =>
    intro hj
    have h := ih (by omega)
    obtain ⟨k, hk⟩ : ∃ k, m - (j + 1) = k := ⟨_, rfl⟩
    have e1 : m - j = k + 1 := by omega
    have e2 : j + 1 = m - k := by omega
    have e3 : j = m - (k + 1) := by omega
    have hd : ls.drop k = ls.getD k 0 :: ls.drop (k + 1) := by
      rw [List.drop_eq_getElem_cons (by omega), List.getD_eq_getElem?_getD, List.getElem?_eq_getElem (by omega)]; rfl
    rw [hk, e2, down_step (by omega), foldD_snoc, ← e3, hd]
    rw [e1] at h
    generalize hD : foldD ls ((down m).take j) = D at *
    have hmap : IsMap D := by rw [← hD]; exact foldD_map _ _
    show NumsAt (D.put (litU (ls.getD k 0)) (.lit (.int .i64 k))) _ k
    generalize ls.getD k 0 = x
    constructor
    · intro p
      unfold fi
      by_cases hp : p = x
      · subst hp; rw [has_put_same hmap (by trivial)]; simp
      · rw [has_put_other (litU_ne hp), h.has, if_neg (fun e => hp e.symm)]; simp
    · intro p i hi
      unfold fi at hi
      by_cases hp : p = x
      · subst hp
        rw [if_pos rfl] at hi
        cases hi
        rw [atKey_put_same hmap (by trivial)]; rfl
      · rw [if_neg (fun e => hp e.symm)] at hi
        obtain ⟨i', h1, h2⟩ := Option.map_eq_some_iff.1 hi
        rw [atKey_put_other (litU_ne hp), h.at_ p i' h1, ← h2]
        congr 3
        omega

theorem numbers_ends {R : Ending → World → Prop} {W : World} {tmps : Array Value} {D : Nat} {v : Value} (hd : W.heap[D]? = some (.deferred (some []))) (t2 : tmps[2]?.getD undef = v) (hR : R (.returned v) (W.putObj D (.deferred none))) :
    bodyPostM Fence.wide 9 Try.prog Try.f26 R .ret { tmps := tmps, defers := [{ target := .collected D, args := #[] }] } W := by
  refine ⟨by simp, .inl ⟨_, _, rfl, run_takeDeferred hd, _, ?_, hR⟩⟩
  simp [results, Try.results26, go_sem, t2]
def BoxM (w : World) (b B : Nat) : Prop := w.heap[b]? = some (.cells #[.map (some B)] 46 (0, 0))
theorem Leaves.grown {B : Nat} {Ks : List Nat} {X W W' : World} {row : Nat} (h : Leaves B Ks X W) (hg : W.grownBy W' (some row)) (hr : row < B ∧ row ∉ Ks) : Leaves B Ks X W' :=
  ⟨Nat.le_trans h.size hg.size, fun k hk hl => (hg.block k (Nat.lt_of_lt_of_le hl h.size) (fun e => by
    cases e
    rcases hk with hk | hk
    · omega
    · exact hr.2 hk)).trans (h.same k hk hl)⟩
theorem ownM_below {w w1 : World} {b n B : Nat} {D : Dm} (h : OwnM w b n D) (hb : Below B w w1) (h1 : b < B) : OwnM w1 b n D := by
  obtain ⟨es, clock, e1, e2, e3, e4⟩ := h
  exact ⟨es, clock, (hb.block b h1).trans e1, e2, e3, e4⟩

set_option maxRecDepth 100000 in
set_option maxHeartbeats 4000000 in
theorem numbers_any (ad : Addr) (m c : Nat) (ls : List Int) (w : World) (hm : m ≤ 256) (HR : ReadsInt w .u32 (some ad) m ls) (hls : ∀ x ∈ ls, 0 ≤ x ∧ x < 4294967296) (hal : ad.block < w.heap.size) :
    Calls Try.prog 26 #[.slice (some ad) m c] w fun e w' => ∃ B D, e = .returned (.map (some B)) ∧ w.heap.size ≤ B ∧ OwnM w' B m D ∧ NumsAt D ls 0 ∧ Below w.heap.size w w' := by
  have hmm := @run_makeMap Try.prog
  refine (callsIn_wide (n := 9)).1 (callsIn_of_wp_marks Try.func26 rfl trivial ?_ rfl)
  refine wpIn_wide.2 ?_
  simp only [Try.ntmps26, List.size_toArray, List.length_cons, List.length_nil, Nat.reduceAdd, Nat.reduceSub, Array.replicate_succ, Array.replicate_zero, List.push_toArray, List.append_toArray, List.nil_append, List.cons_append]
  go_wp2_with fail
  refine (backward_any _ _ _ _).mono ?_
  rintro e w' ⟨rfl, rfl⟩
  go_wp2_with fail
  obtain ⟨B, hB⟩ : ∃ B, w.heap.size = B := ⟨_, rfl⟩
  have hb1 : Below B w (((w.alloc (.map #[] 0)).alloc (.cells #[.map (some B)] 46)).alloc (.cells #[.slice (some ad) m c] 22)) := by
    rw [← hB]; exact (((Below.refl _ w).alloc (Nat.le_refl _) _).alloc (by simp) _).alloc (by simp; omega) _
  have hz1 : (((w.alloc (.map #[] 0)).alloc (.cells #[.map (some B)] 46)).alloc (.cells #[.slice (some ad) m c] 22)).heap.size = B + 3 := by simp [hB]
  have hown : OwnM (((w.alloc (.map #[] 0)).alloc (.cells #[.map (some B)] 46)).alloc (.cells #[.slice (some ad) m c] 22)) B 0 (.map []) := by
    rw [← hB]; exact ((World.ownsMap_made w _ _ _).alloc _).alloc _
  have hbox : BoxM (((w.alloc (.map #[] 0)).alloc (.cells #[.map (some B)] 46)).alloc (.cells #[.slice (some ad) m c] 22)) (B + 1) B := by
    have h := alloc_new (w.alloc (.map #[] 0)) #[.map (some B)] 46
    rw [World.size_alloc, hB] at h
    exact ((Mods.refl [] _).alloc _).blk h (by simp)
  have hbs : (((w.alloc (.map #[] 0)).alloc (.cells #[.map (some B)] 46)).alloc (.cells #[.slice (some ad) m c] 22)).cell? ⟨B + 2, 0, none⟩ = some (.slice (some ad) m c) := by
    have h := alloc_new ((w.alloc (.map #[] 0)).alloc (.cells #[.map (some B)] 46)) #[.slice (some ad) m c] 22
    rw [World.size_alloc, World.size_alloc, hB] at h
    rw [cell_blk h]; rfl
  have hcs : ∀ i, i < m → (((w.alloc (.map #[] 0)).alloc (.cells #[.map (some B)] 46)).alloc (.cells #[.slice (some ad) m c] 22)).cell? (ad.add i) = some (.int .u32 (ls.getD i 0)) := fun i hi => by
    obtain ⟨ad', e, hc⟩ := HR.2.2 (by omega)
    cases e
    exact (hb1.cell (by rw [add_block1]; omega)).trans (hc i hi)
  have HLS := Lib.hid hls; have HL := Lib.hid HR.1
  rw [show w.heap.size + 1 + 1 = B + 2 by omega, hB]
  rw [hB] at hal
  clear HR hls
  generalize (((w.alloc (.map #[] 0)).alloc (.cells #[.map (some B)] 46)).alloc (.cells #[.slice (some ad) m c] 22)) = w1 at *
  refine (wpIn_wide (n := 9)).1 ?_
  refine wpIn_rangeFunc_seq rfl (by decide) (gf := 53) (lb := #[.pointer (some ⟨B + 2, 0, none⟩)]) rfl trivial (enters_of Try.func53 (by kernel_rfl) rfl)
    (backward_stops (9 - 1) (by decide) (B + 2) ad m c ls (by omega) w1 (by omega) (by omega) hbs hcs) (Below.refl _ _) (by simp; omega) (fun _ => rfl)
    (fun pre W' => OwnM W' B pre.length (foldD ls pre) ∧ BoxM W' (B + 1) B ∧ Below B w W')
    (fun c pre W' => False) ?locI ?locIx ⟨hown, hbox, hb1⟩
    (fun x a' W => a' = { tmps := #[.slice (some ad) m c, undef, .map none, .pointer (some ⟨B + 1, 0, none⟩), .int .i64 x.val, .int .u32 (ls.getD x.val 0), .map (some B), .slice (some ad) m c, .func (.func 53) #[] #[.pointer (some ⟨B + 2, 0, none⟩)], .int .i64 x.val, .int .u32 (ls.getD x.val 0), undef, undef, undef, undef], defers := [] })
    ?hAx ?assign ?body ?done ?stop
  case locI =>
    rintro pre A C ⟨h1, h2, h3⟩ hb
    exact ⟨ownM_below h1 hb (by omega), (hb.block _ (by omega)).trans h2, h3.trans (hb.mono (by omega))⟩
  case locIx => rintro c pre A C h hb; exact h
  case hAx => rintro x a' W o h; exact h
  case assign =>
    rintro l2 pre x W' K hz hI hK
    unfold encB
    dsimp only
    gi_wp2
    exact hK _ _ (Leaves.refl _ _ _) hI rfl
  case body =>
    rintro l2 pre x a' W' hz ⟨h1, h2, h3⟩ rfl hlen
    have hin : ls.getD x.val 0 ∈ ls := by
      have := x.isLt; have := HL.out
      rw [List.getD_eq_getElem?_getD, List.getElem?_eq_getElem (by omega)]; exact List.getElem_mem _
    have hpw := HLS.out _ hin
    have hsn := foldD_snoc ls pre x
    have HSN := Lib.hid hsn
    clear hsn hin
    generalize ls.getD x.val 0 = p at *
    have hwf : (Lit.int .u32 p).wf = true := by simp [Lit.wf, IntKind.min, IntKind.max, IntKind.bits, IntKind.signed]; omega
    have hkey := keyOf_int_mk Try.underlying31 hwf
    have hmx : pre.length < maxLen := by unfold maxLen; omega
    have hwi : (Lit.int .i64 (x.val : Int)).wf = true := by have := x.isLt; simp [Lit.wf, IntKind.min, IntKind.max, IntKind.bits, IntKind.signed]; omega
    have hc := cell_blk h2 0
    have HH := Lib.hid (And.intro h2 h3)
    clear h2 h3 hpw
    gi_wp2_with (first
      | (gi_at_mapUpdate; refine wpListIn_mapUpdate_own _ rfl _ _ _ 46 rfl 31 3 lawU Try.underlying46 _ B pre.length _ rfl h1 hmx _ _ _ rfl rfl hkey _ [] (plainElem_int Try.underlying3 hwi) ?_; intro w3 hown3 hgrow3)
      | gi_in)
    refine ⟨(Leaves.refl _ _ _).grown hgrow3 ⟨by omega, by simp; omega⟩, ?_, ?_, ?_⟩
    · rw [List.length_append, List.length_singleton, HSN.out]; exact hown3
    · exact (hgrow3.block _ (blk_lt HH.out.1) (by simp)).trans HH.out.1
    · exact HH.out.2.grown hgrow3 (by omega) (fun j hj => by cases hj; exact Nat.le_refl _)
  case done =>
    rintro ys W' rfl ⟨h1, h2, h3⟩ hd hz
    have hn := nums_at ls m HL.out m (Nat.le_refl _)
    rw [List.take_of_length_le (by rw [down_length]; exact Nat.le_refl _), Nat.sub_self, List.drop_zero] at hn
    rw [down_length] at h1
    have HN := Lib.hid hn
    have hc := cell_blk h2 0
    have HX := Lib.hid (And.intro h1 h3)
    clear h1 h2 h3 hn
    go_wp2
    have hp : ∀ (X : World), Below (B + 3) X (X.putObj w1.heap.size (.deferred none)) := fun X => ⟨rfl, rfl, rfl, by simp, fun k hk => World.putObj_heap_other (by omega)⟩
    exact numbers_ends hd rfl ⟨B, _, rfl, by omega, ownM_below HX.out.1 (hp _) (by omega), HN.out, by rw [hB]; exact HX.out.2.trans ((hp _).mono (by omega))⟩
  case stop =>
    rintro c pre W' _ h
    exact h.elim
end Go.Proofs.Ytmgkdlkjcncniaa
