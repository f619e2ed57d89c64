/- Boxes, results that lie in them. -/
import Derived.Test.YtfeloicmkcfinaaDoorTypes
import Derived.Laws.ResultCell
import Derived.Laws.Rows
namespace Go.Proofs.YtfeloicmkcfinaaDoor
open Go.RowKit
open Go.Proofs.YtfeloicmkcfinaaDoorW.PrintWords

theorem alloc_new (w : World) (xs : Array Value) (e : TypeId) : (w.alloc (.cells xs e)).heap[w.heap.size]? = some (.cells xs e (0, 0)) := by
  show (w.heap.push _)[w.heap.size]? = _
  simp
/-- A result that lies in a box of its own, and a second one. -/
theorem results_box {P : Program} {fn : Func} {p u : Tmp} {ty : TypeId} (h : fn.results = #[.cell p ty, .tmp u]) (tmps : Array Value) (w : World) (g : Nat) (t : TypeId) (cs : Array Value) (fr : Nat × Nat) (d : TypeDesc)
    (hp : tmps.getD p undef = .pointer (some ⟨g, 0, none⟩)) (hg : w.heap[g]? = some (.cells cs t fr))
    (hu : P.underlying ty = some d) (hd : (match d with | .struct _ | .array _ _ => true | _ => false) = true) (hi : (P.info? ty).map (·.size) = some cs.size) :
    (results fn tmps).run P w = .ok (.tuple #[.agg cs, tmps.getD u undef]) w := by
  rw [results_cell_tmp h, hp, show (asAddr (Value.pointer (some ⟨g, 0, none⟩))).run P w = .ok ⟨g, 0, none⟩ w from rfl]
  simp only [Result.andThen]
  rw [run_loadVar_row w g t ty cs fr d hg hu hd hi]
theorem results_oneK {P : Program} {fn : Func} {p : Tmp} {ty : TypeId} (h : fn.results = #[.cell p ty]) (tmps : Array Value) (w : World) (g : Nat) (t : TypeId) (cs : Array Value) (fr : Nat × Nat) (d : TypeDesc)
    (hp : tmps.getD p undef = .pointer (some ⟨g, 0, none⟩)) (hg : w.heap[g]? = some (.cells cs t fr))
    (hu : P.underlying ty = some d) (hd : (match d with | .struct _ | .array _ _ => true | _ => false) = true) (hi : (P.info? ty).map (·.size) = some cs.size) :
    (results fn tmps).run P w = .ok (.agg cs) w := by
  have : (results fn tmps).run P w = ((asAddr (tmps.getD p undef)).run P w).andThen fun a w₁ => (loadVar ty a).run P w₁ := by
    simp only [results, h]
    simp [Sem.run_bind, Result.andThen]
  rw [this, hp, show (asAddr (Value.pointer (some ⟨g, 0, none⟩))).run P w = .ok ⟨g, 0, none⟩ w from rfl]
  simp only [Result.andThen]
  rw [run_loadVar_row w g t ty cs fr d hg hu hd hi]
theorem results_tmp4 {fn : Func} {t u v x : Tmp} (h : fn.results = #[.tmp t, .tmp u, .tmp v, .tmp x]) (tmps : Array Value) (P : Program) (w : World) :
    (results fn tmps).run P w = .ok (.tuple #[tmps.getD t undef, tmps.getD u undef, tmps.getD v undef, tmps.getD x undef]) w := by
  simp [results, h]
theorem parts_any (p : Int) (w : World) (h0 : 0 ≤ p) (h1 : p < 4294967296) : Calls Tryd.prog 35 #[.int .u32 p] w fun e w' => e = .returned (.tuple #[.int .u8 (p / 16777216), .int .u8 (p / 65536 % 256), .int .u8 (p / 256 % 256), .int .u8 (p % 256)]) ∧ w = w' := by
  go_enter Tryd.func35, Tryd.ntmps35
  go_wp2_with fail
  refine bodyPost_ret (results_tmp4 rfl _ _ _) rfl ?_
  exact ⟨rfl, rfl⟩
end Go.Proofs.YtfeloicmkcfinaaDoor
