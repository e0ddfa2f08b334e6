/- The law's run. -/
import Derived.Test.YtjffpbodflkehaaGreatDoorDE0
import Derived.KernelRfl
set_option maxRecDepth 1000000
namespace Go.Vm.T
open Go.Vm.I
theorem ev2 : pcallS Ph2 100000 5 [.int .i64 (.ofNat 2), .bool true] = some (.bool true) := by kernel_rfl
end Go.Vm.T
