/- The law's run. -/
import Derived.Test.YtjffpbodflkehaaGreatDoorOE0
import Derived.KernelRfl
set_option maxRecDepth 1000000
namespace Go.Vm.T
open Go.Vm.I
theorem ev1 : pcallS Ph2 100000 8 [.int .i64 (.ofNat 1), .str [115], .str [102]] = some (.bool true) := by kernel_rfl
end Go.Vm.T
