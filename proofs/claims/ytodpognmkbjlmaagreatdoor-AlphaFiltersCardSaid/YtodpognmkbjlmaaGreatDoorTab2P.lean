/- table.Unpack: plain facts. -/
import Derived.Test.YtodpognmkbjlmaaGreatDoorTab1
import Derived.Deep.RegionHeld3
import Derived.Laws.ResultCell
import Derived.Laws.Rows
namespace Go.Proofs.YtodpognmkbjlmaaGreatDoor
open Go.RowKit
open Go.Proofs.YtodpognmkbjlmaaGreatDoorW.PrintWords

/-- May a picture be unpacked so? -/
def okU (W H : Int) (n m : Nat) (w : Int) : Bool := goodI W H n && (goodT m && (decide (1 ≤ w ∧ w ≤ 16384) && blocksI w (bitsT m) == W))
/-- A pixel's number in a packed one. -/
def unpN (b : Nat) (g : Int) (x : Nat) : Int := g / 2 ^ (x % 2 ^ b * (8 / 2 ^ b)) % 2 ^ (8 / 2 ^ b)
def unpPix (W w b : Nat) (ps ls : List Int) (t : Nat) : Int :=
  let n := unpN b (ps.getD (t / w * W + t % w / 2 ^ b) 0 / 256 % 256) (t % w)
  if n < ls.length then ls.getD n.toNat 0 else 0

theorem alloc_new (w : World) (xs : Array Value) (e : TypeId) : (w.alloc (.cells xs e)).heap[w.heap.size]? = some (.cells xs e (0, 0)) := by
  show (w.heap.push _)[w.heap.size]? = _
  simp
theorem laid_box (w1 : World) (box : Array Value) (e e2 : TypeId) (N : Nat) (hN : N ≤ 9223372036854775807) : ((w1.alloc (.cells box e)).alloc (.cells (madeCells #[.int .u32 0] N) e2)).drew.heap[w1.heap.size]? = some (.cells box e (0, 0)) ∧
    ((w1.alloc (.cells box e)).alloc (.cells (madeCells #[.int .u32 0] N) e2)).drew.ownsRow w1.heap.size e2 1 (.slice (some ⟨w1.heap.size + 1, 0, none⟩) N N) N (nums .u32 (List.replicate N 0)) ∧ Below w1.heap.size w1 ((w1.alloc (.cells box e)).alloc (.cells (madeCells #[.int .u32 0] N) e2)).drew := by
  refine ⟨(Below.heap_alloc _ _ _ (by simp)).trans (alloc_new _ _ _), ?_, below_drew (((Below.refl _ w1).alloc (Nat.le_refl _) _).alloc (by simp) _)⟩
  have h := own_made (w1.alloc (.cells box e)) w1.heap.size e2 .u32 N (by simp) hN
  rw [World.size_alloc] at h
  exact h
theorem laid_row (w1 : World) (box : Array Value) (e e2 : TypeId) (N : Nat) (hN : N ≤ 9223372036854775807) : ((w1.alloc (.cells (madeCells #[.int .u32 0] N) e2)).alloc (.cells box e)).drew.heap[w1.heap.size + 1]? = some (.cells box e (0, 0)) ∧
    ((w1.alloc (.cells (madeCells #[.int .u32 0] N) e2)).alloc (.cells box e)).drew.ownsRow w1.heap.size e2 1 (.slice (some ⟨w1.heap.size, 0, none⟩) N N) N (nums .u32 (List.replicate N 0)) ∧ Below w1.heap.size w1 ((w1.alloc (.cells (madeCells #[.int .u32 0] N) e2)).alloc (.cells box e)).drew := by
  refine ⟨?_, ?_, below_drew (((Below.refl _ w1).alloc (Nat.le_refl _) _).alloc (by simp) _)⟩
  · have h := alloc_new (w1.alloc (.cells (madeCells #[.int .u32 0] N) e2)) box e
    rw [World.size_alloc] at h; exact h
  · have h := own_made w1 w1.heap.size e2 .u32 N (Nat.le_refl _) hN
    exact pw_own_below h (below_drew ((Below.refl _ _).alloc (Nat.le_refl _) _))

theorem idx_lt {W H w b t : Nat} (hw : 1 ≤ w) (hW : W = (w + 2 ^ b - 1) / 2 ^ b) (ht : t < w * H) : t / w < H ∧ t % w / 2 ^ b < W ∧ t / w * W + t % w / 2 ^ b < W * H := by
  have hp : 0 < 2 ^ b := Nat.pow_pos (by decide)
  have hq : t / w < H := Nat.div_lt_of_lt_mul ht
  have hx : t % w < w := Nat.mod_lt _ (by omega)
  have hy : t % w / 2 ^ b < W := by
    rw [hW]
    show t % w / 2 ^ b + 1 ≤ (w + 2 ^ b - 1) / 2 ^ b
    rw [Nat.le_div_iff_mul_le hp, Nat.add_mul, Nat.one_mul]
    have := Nat.div_mul_le_self (t % w) (2 ^ b)
    omega
  refine ⟨hq, hy, ?_⟩
  have h1 : (t / w + 1) * W ≤ H * W := Nat.mul_le_mul_right W hq
  rw [Nat.add_mul, Nat.one_mul] at h1
  rw [Nat.mul_comm W H]
  omega
set_option maxRecDepth 100000 in
theorem masks : ∀ v : Fin 256, bits BinOp.and .i64 ((v.val : Nat) : Int) 255 = ((v.val : Nat) : Int) ∧ bits BinOp.and .i64 ((v.val : Nat) : Int) 15 = ((v.val % 16 : Nat) : Int) ∧ bits BinOp.and .i64 ((v.val : Nat) : Int) 3 = ((v.val % 4 : Nat) : Int) ∧ bits BinOp.and .i64 ((v.val : Nat) : Int) 1 = ((v.val % 2 : Nat) : Int) := by decide
theorem mask_of {g : Int} (h0 : 0 ≤ g) (h1 : g ≤ 255) (s : Nat) : ∃ u : Nat, g / 2 ^ s = (u : Int) ∧ bits BinOp.and .i64 (g / 2 ^ s) 255 = u ∧ bits BinOp.and .i64 (g / 2 ^ s) 15 = ((u % 16 : Nat) : Int) ∧ bits BinOp.and .i64 (g / 2 ^ s) 3 = ((u % 4 : Nat) : Int) ∧ bits BinOp.and .i64 (g / 2 ^ s) 1 = ((u % 2 : Nat) : Int) := by
  obtain ⟨a, rfl⟩ : ∃ a : Nat, g = a := ⟨g.toNat, by omega⟩
  have e : (a : Int) / 2 ^ s = ((a / 2 ^ s : Nat) : Int) := by norm_cast
  have hl : a / 2 ^ s ≤ a := Nat.div_le_self _ _
  have h := masks ⟨a / 2 ^ s, by omega⟩
  exact ⟨a / 2 ^ s, e, by rw [e]; exact h.1, by rw [e]; exact h.2.1, by rw [e]; exact h.2.2.1, by rw [e]; exact h.2.2.2⟩
theorem num0 {g : Int} (h0 : 0 ≤ g) (h1 : g ≤ 255) (x : Nat) : ∃ K : Nat, bits BinOp.and .i64 g 255 = (K : Int) ∧ unpN 0 g x = K := by
  obtain ⟨u, h, e, _⟩ := mask_of h0 h1 0
  simp at h e
  exact ⟨u, e, by unfold unpN; simp [Nat.mod_one]; omega⟩
theorem num1 {g : Int} (h0 : 0 ≤ g) (h1 : g ≤ 255) (x : Nat) : ∃ K : Nat, bits BinOp.and .i64 (g / 2 ^ (x % 2 * 4)) 15 = (K : Int) ∧ unpN 1 g x = K := by
  obtain ⟨u, h, _, e, _⟩ := mask_of h0 h1 (x % 2 * 4)
  exact ⟨u % 16, e, by unfold unpN; show g / 2 ^ (x % 2 * 4) % 16 = _; rw [h]; norm_cast⟩
theorem num2 {g : Int} (h0 : 0 ≤ g) (h1 : g ≤ 255) (x : Nat) : ∃ K : Nat, bits BinOp.and .i64 (g / 2 ^ (x % 4 * 2)) 3 = (K : Int) ∧ unpN 2 g x = K := by
  obtain ⟨u, h, _, _, e, _⟩ := mask_of h0 h1 (x % 4 * 2)
  exact ⟨u % 4, e, by unfold unpN; show g / 2 ^ (x % 4 * 2) % 4 = _; rw [h]; norm_cast⟩
theorem num3 {g : Int} (h0 : 0 ≤ g) (h1 : g ≤ 255) (x : Nat) : ∃ K : Nat, bits BinOp.and .i64 (g / 2 ^ (x % 8)) 1 = (K : Int) ∧ unpN 3 g x = K := by
  obtain ⟨u, h, _, _, _, e⟩ := mask_of h0 h1 (x % 8)
  exact ⟨u % 2, e, by unfold unpN; show g / 2 ^ (x % 8 * 1) % 2 = _; rw [Nat.mul_one, h]; norm_cast⟩
theorem fill_set (f : Nat → Int) (N t : Nat) (ht : t < N) (v : Int) (hv : v = f t) : ((List.range t).map f ++ List.replicate (N - t) 0).set t v = (List.range (t + 1)).map f ++ List.replicate (N - (t + 1)) 0 := by
  rw [List.set_append_right _ _ (by simp), List.length_map, List.length_range, Nat.sub_self, show N - t = (N - (t + 1)) + 1 by omega, List.replicate_succ, List.set_cons_zero, List.range_succ, List.map_append, hv]
  simp
theorem fill_none (f : Nat → Int) (N t : Nat) (ht : t < N) (hv : f t = 0) : (List.range t).map f ++ List.replicate (N - t) 0 = (List.range (t + 1)).map f ++ List.replicate (N - (t + 1)) 0 := by
  rw [show N - t = (N - (t + 1)) + 1 by omega, List.replicate_succ, List.range_succ, List.map_append]
  simp [hv]
theorem nums_set32 (cur : List Int) (j : Nat) (x : Int) : nums .u32 (cur.set j x) = (nums .u32 cur).set j (.int .u32 x) := by simp [nums, List.map_set]
theorem add_block (a : Addr) (k : Nat) : (a.add k).block = a.block := by unfold Addr.add; split <;> rfl
theorem block_of {w : World} {k : IntKind} {a : Addr} {m : Nat} {ls : List Int} (h : ReadsInt w k (some a) m ls) (hm : 0 < m) : a.block < w.heap.size := by
  obtain ⟨ad, e, hc⟩ := h.2.2 hm
  cases e
  have := World.block_lt_of_cell? w _ (hc 0 hm)
  rwa [add_block] at this
theorem getD_room {ps : List Int} (h : ∀ x ∈ ps, 0 ≤ x ∧ x < 4294967296) (i : Nat) : 0 ≤ ps.getD i 0 ∧ ps.getD i 0 < 4294967296 := by
  rw [List.getD_eq_getElem?_getD]
  by_cases hi : i < ps.length
  · rw [List.getElem?_eq_getElem hi]; exact h _ (List.getElem_mem _)
  · rw [List.getElem?_eq_none (by omega)]; simp
theorem blocks_nat {w W b : Nat} (h : ((w : Int) + 2 ^ b - 1) / 2 ^ b = (W : Int)) (hw : 1 ≤ w) : W = (w + 2 ^ b - 1) / 2 ^ b := by
  have hp : 0 < 2 ^ b := Nat.pow_pos (by decide)
  have e : ((w : Int) + 2 ^ b - 1) = ((w + 2 ^ b - 1 : Nat) : Int) := by
    have : ((2 ^ b : Nat) : Int) = 2 ^ b := by norm_cast
    omega
  rw [e, show (2 : Int) ^ b = ((2 ^ b : Nat) : Int) by norm_cast] at h
  exact_mod_cast h.symm
theorem bitsT_le (m : Nat) : bitsT m ≤ 3 := by unfold bitsT; split <;> (try split) <;> (try split) <;> omega
theorem okU_parts {W H : Int} {n m : Nat} {w : Int} (h : okU W H n m w = true) : goodI W H n = true ∧ goodT m = true ∧ 1 ≤ w ∧ w ≤ 16384 ∧ blocksI w (bitsT m) = W := by
  unfold okU at h; simpa [and_assoc] using h

/-- A result that lies in a box of its own, and a second one. -/
theorem results_box {P : Program} {fn : Func} {p u : Tmp} {ty : TypeId} (h : fn.results = #[.cell p ty, .tmp u]) (tmps : Array Value) (w : World) (g : Nat) (t : TypeId) (cs : Array Value) (fr : Nat × Nat) (d : TypeDesc)
    (hp : tmps.getD p undef = .pointer (some ⟨g, 0, none⟩)) (hg : w.heap[g]? = some (.cells cs t fr))
    (hu : P.underlying ty = some d) (hd : (match d with | .struct _ | .array _ _ => true | _ => false) = true) (hi : (P.info? ty).map (·.size) = some cs.size) :
    (results fn tmps).run P w = .ok (.tuple #[.agg cs, tmps.getD u undef]) w := by
  rw [results_cell_tmp h, hp, show (asAddr (Value.pointer (some ⟨g, 0, none⟩))).run P w = .ok ⟨g, 0, none⟩ w from rfl]
  simp only [Result.andThen]
  rw [run_loadVar_row w g t ty cs fr d hg hu hd hi]
theorem size_image : (Tryz.prog.info? 51).map (·.size) = some 3 := by kernel_rfl
theorem blk_set3 {w : World} {g : Nat} {x y z : Value} {T : TypeId} (h : w.heap[g]? = some (.cells #[x, y, z] T (0, 0))) (u v q : Value) : (((w.setCell ⟨g, 0, none⟩ u).setCell ⟨g, 1, none⟩ v).setCell ⟨g, 2, none⟩ q).heap[g]? = some (.cells #[u, v, q] T (0, 0)) := blk_set (blk_set (blk_set h 0 u) 1 v) 2 q
theorem below_box {B g : Nat} {a w : World} (h : Below B a w) (hg : B ≤ g) (u v q : Value) : Below B a (((w.setCell ⟨g, 0, none⟩ u).setCell ⟨g, 1, none⟩ v).setCell ⟨g, 2, none⟩ q) := ((h.setCell (p := ⟨g, 0, none⟩) hg _).setCell (p := ⟨g, 1, none⟩) hg _).setCell (p := ⟨g, 2, none⟩) hg _
theorem mods_box (g : Nat) (w : World) (u v q : Value) : Mods [g] w (((w.setCell ⟨g, 0, none⟩ u).setCell ⟨g, 1, none⟩ v).setCell ⟨g, 2, none⟩ q) := (((Mods.refl [g] w).setCell (p := ⟨g, 0, none⟩) (.inl (by simp)) _).setCell (p := ⟨g, 1, none⟩) (.inl (by simp)) _).setCell (p := ⟨g, 2, none⟩) (.inl (by simp)) _
theorem own_mods {w w1 : World} {B G s : Nat} {e : TypeId} {n c N : Nat} {xs : List Value} {S : List Nat} (h : w.ownsRow B e s (.slice (some ⟨G, 0, none⟩) n c) N xs) (hm : Mods S w w1) (hs : G ∉ S) : w1.ownsRow B e s (.slice (some ⟨G, 0, none⟩) n c) N xs := by
  rcases h.2 with ⟨h1, _⟩ | ⟨g, cap, cur, h1, h2, h3, h4⟩
  · cases h1
  · cases h1
    exact ⟨h.1, .inr ⟨_, _, cur, rfl, h2, hm.blk h3 hs, h4⟩⟩
theorem own_base {w : World} {B B' s : Nat} {e : TypeId} {v : Value} {N : Nat} {xs : List Value} (h : w.ownsRow B e s v N xs) (hb : B' ≤ B) : w.ownsRow B' e s v N xs := by
  refine ⟨h.1, h.2.imp id fun ⟨g, cap, cur, h1, h2, h3⟩ => ⟨g, cap, cur, h1, Nat.le_trans hb h2, h3⟩⟩
end Go.Proofs.YtodpognmkbjlmaaGreatDoor
