/- The law's run in the machine: true, whatever the arguments. -/
import Derived.Test.YtjffpbodflkehaaGreatDoorDE1
import Derived.Test.YtjffpbodflkehaaGreatDoorDE2
import Derived.Test.YtjffpbodflkehaaGreatDoorDE3
import Derived.Test.YtjffpbodflkehaaGreatDoorDE4
import Derived.Test.YtjffpbodflkehaaGreatDoorDE5
import Derived.Test.YtjffpbodflkehaaGreatDoorDE6
import Derived.KernelRfl
set_option maxRecDepth 1000000
namespace Go.Vm.T
open Go.Vm.I
theorem e0 (b : Bool) : pcallS Ph2 100000 5 [.int .i64 (Int.ofNat 0), .bool b] = some (.bool true) := by kernel_rfl
theorem eN (m : Nat) (b : Bool) : pcallS Ph2 100000 5 [.int .i64 (Int.negSucc m), .bool b] = some (.bool true) := by kernel_rfl
theorem eP (m : Nat) (b : Bool) : pcallS Ph2 100000 5 [.int .i64 (Int.ofNat (Nat.succ (Nat.succ (Nat.succ (Nat.succ m))))), .bool b] = some (.bool true) := by kernel_rfl
theorem law (n : Int) (b : Bool) : pcallS Ph2 100000 5 [.int .i64 n, .bool b] = some (.bool true) := by
  match n with
  | .negSucc m => exact eN m b
  | .ofNat 0 => exact e0 b
  | .ofNat 1 => cases b; exact ev1; exact ev0
  | .ofNat 2 => cases b; exact ev3; exact ev2
  | .ofNat 3 => cases b; exact ev5; exact ev4
  | .ofNat (m + 4) => exact eP m b
end Go.Vm.T
