/- Steps of an image (tokens) in memory: five cells each. -/
import Derived.Test.YtfeloicmkcfinaaDoorBoxK
namespace Go.Proofs.YtfeloicmkcfinaaDoor
open Go.RowKit
open Go.Proofs.YtfeloicmkcfinaaDoorW.PrintWords

structure Tk where
  kind : Int
  len : Int
  dist : Int
  index : Int
  argb : Int
def Tk.cells (t : Tk) : List Value := [.int .i64 t.kind, .int .i64 t.len, .int .i64 t.dist, .int .i64 t.index, .int .u32 t.argb]
def tkV (t : Tk) : Value := .agg #[.int .i64 t.kind, .int .i64 t.len, .int .i64 t.dist, .int .i64 t.index, .int .u32 t.argb]
/-- A pixel as it is. -/
def lit (p : Int) : Tk := ⟨1, 0, 0, 0, p⟩
def tks (l : List Tk) : List Value := l.flatMap Tk.cells
theorem tks_length (l : List Tk) : (tks l).length = l.length * 5 := by
  induction l with
  | nil => rfl
  | cons t l ih =>
    have : tks (t :: l) = t.cells ++ tks l := rfl
    rw [this, List.length_append, ih, List.length_cons]
    show 5 + _ = _
    omega
theorem tks_get (l : List Tk) (i : Nat) (t : Tk) (h : l[i]? = some t) : (tks l)[i * 5]? = some (.int .i64 t.kind) ∧ (tks l)[i * 5 + 1]? = some (.int .i64 t.len) ∧ (tks l)[i * 5 + 2]? = some (.int .i64 t.dist) ∧ (tks l)[i * 5 + 3]? = some (.int .i64 t.index) ∧ (tks l)[i * 5 + 4]? = some (.int .u32 t.argb) := by
  induction l generalizing i with
  | nil => simp at h
  | cons q l ih =>
    have e : tks (q :: l) = .int .i64 q.kind :: .int .i64 q.len :: .int .i64 q.dist :: .int .i64 q.index :: .int .u32 q.argb :: tks l := rfl
    rw [e]
    cases i with
    | zero => simp at h; subst h; exact ⟨rfl, rfl, rfl, rfl, rfl⟩
    | succ i =>
      simp at h
      have := ih i h
      rw [show (i + 1) * 5 = i * 5 + 1 + 1 + 1 + 1 + 1 from by omega]
      simpa using this
theorem tks_app (a b : List Tk) : tks (a ++ b) = tks a ++ tks b := by simp [tks]
/-- Block b holds these tokens from its beginning on. -/
def ReadsK (w : World) (b : Nat) (l : List Tk) : Prop := ∀ j u, (tks l)[j]? = some u → w.cell? ⟨b, j, none⟩ = some u
theorem ReadsK.mods {S : List Nat} {w w' : World} {b : Nat} {l : List Tk} (h : ReadsK w b l) (hm : Mods S w w') (hb : b ∉ S) : ReadsK w' b l :=
  fun j u hj => (World.cell?_of_block (w := w) (hm.block b (World.block_lt_of_cell? w _ (h j u hj)) hb)).trans (h j u hj)
theorem ReadsK.below {w w' : World} {b : Nat} {l : List Tk} (h : ReadsK w b l) (hb : Below w.heap.size w w') : ReadsK w' b l := h.mods (Mods.of_below hb []) (by simp)
theorem ReadsK.at {w : World} {b : Nat} {l : List Tk} (h : ReadsK w b l) (i : Nat) (t : Tk) (ht : l[i]? = some t) :
    w.cell? ⟨b, i * 5, none⟩ = some (.int .i64 t.kind) ∧ w.cell? ⟨b, i * 5 + 1, none⟩ = some (.int .i64 t.len) ∧ w.cell? ⟨b, i * 5 + 2, none⟩ = some (.int .i64 t.dist) ∧ w.cell? ⟨b, i * 5 + 3, none⟩ = some (.int .i64 t.index) ∧ w.cell? ⟨b, i * 5 + 4, none⟩ = some (.int .u32 t.argb) := by
  obtain ⟨h0, h1, h2, h3, h4⟩ := tks_get l i t ht
  exact ⟨h _ _ h0, h _ _ h1, h _ _ h2, h _ _ h3, h _ _ h4⟩
theorem ReadsK.lt {w : World} {b : Nat} {l : List Tk} (h : ReadsK w b l) (hl : 0 < l.length) : b < w.heap.size := by
  obtain ⟨t, ht⟩ : ∃ t, l[0]? = some t := ⟨l[0], List.getElem?_eq_getElem hl⟩
  exact World.block_lt_of_cell? w _ (h.at 0 t ht).1
end Go.Proofs.YtfeloicmkcfinaaDoor
