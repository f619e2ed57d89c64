/- The forced cells of this seat's rows that speak of the whole program, each a closed fact. -/
import Derived.Test.YtbljoihnjhllhaaRows
import Derived.JoinedOf
import Derived.KernelRfl
namespace Go.Proofs.Ytbljoihnjhllhaa.Facts
open Go
theorem both {a b : Bool} (ha : a = true) (hb : b = true) : (a && b) = true := by rw [ha, hb]; rfl
theorem fact1 : (laidOutB Try.pinned.checked.prog) = true := by kernel_rfl
theorem fact2 : (mapsRowed Try.pinned.checked.prog) = true := by kernel_rfl
theorem fact6 : ((Try.pinned.checked.prog.stops == [])) = true := by kernel_rfl
theorem fact8 : ((Try.pinned.checked.prog.stopKnobs == [])) = true := by kernel_rfl
theorem fact22 : ((Rows.lensFlatRow.plainKeys == Try.pinned.checked.prog.plainKeys)) = true := by kernel_rfl
theorem fact24 : (Try.pinned.checked.prog.stopsHeard) = true := by kernel_rfl
theorem fact25 : (Try.pinned.checked.prog.mayEnter) = true := by kernel_rfl
theorem fact26 : ((Rows.lensFlatRow.lifted == Try.pinned.checked.prog.liftsFinal)) = true := by kernel_rfl
theorem fact27 : ((Try.pinned.checked.prog.make == some Rows.lensFlatRow.make)) = true := by kernel_rfl
end Go.Proofs.Ytbljoihnjhllhaa.Facts
