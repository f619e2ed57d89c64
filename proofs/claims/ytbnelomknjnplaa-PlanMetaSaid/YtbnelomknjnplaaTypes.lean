/- The rows of the program's table of types that the walks ask. -/
import Derived.Test.YtbnelomknjnplaaChecked
import Derived.Test.YtbnelomknjnplaaBase
namespace Go.Proofs.Ytbnelomknjnplaa
theorem info_u8 : (Try.prog.info? 5).map (fun i => (i.zero, i.size, i.bytes)) = some (some (.int .u8 0), 1, 1) := by kernel_rfl
theorem info_int : (Try.prog.info? 3).map (fun i => (i.zero, i.size, i.bytes)) = some (some (.int .i64 0), 1, 8) := by kernel_rfl
theorem info_u32 : (Try.prog.info? 38).map (fun i => (i.zero, i.size, i.bytes)) = some (some (.int .u32 0), 1, 4) := by kernel_rfl
end Go.Proofs.Ytbnelomknjnplaa
