/- The table of spaces out of what a row lists as laid. -/
import Derived.Test.YtoanhnebalapeaaDoorNear6
import Derived.MakeChecks
import Derived.Stop.LaidErr
namespace Go.Proofs.YtoanhnebalapeaaDoor
open Go Go.RowKit

theorem laid_drop {P : Program} {w : World} : ∀ (k : Nat) (laid : List (String × DataW Unit)), laidMet P laid w → laidMet P (laid.drop k) w
  | 0, _, h => h
  | _ + 1, [], h => h
  | k + 1, _ :: r, h => laid_drop k r h.tail
theorem spaces_of_laid {w : World} {laid : List (String × DataW Unit)} (h : laidMetH Tryd.prog laid w) (hp : (laid.all fun x => x.2.handleName?.isNone) = true) (k : Nat) (rest : List (String × DataW Unit))
    (hd : laid.drop k = ("strings.asciiSpace", Lib.tabData .u8 Lib.asciiSpaceTab) :: rest) : Spaces w := by
  rw [MakeChecks.laidMetH_plain _ _ _ hp] at h
  have h2 := laid_drop k laid h
  rw [hd] at h2
  have ht := Lib.tabIs_of_head (g := 0) (t := 50) (e := 5) (n := 256) (by kernel_rfl) (by kernel_rfl) Tryd.underlying50 Tryd.underlying5 (by kernel_rfl) (by kernel_rfl) h2
  intro c hc
  rw [ht.cell (g := 0) (by kernel_rfl) c (by rw [Lib.asciiSpaceTab_length]; exact hc), Lib.asciiSpaceTab_at c hc]
end Go.Proofs.YtoanhnebalapeaaDoor
