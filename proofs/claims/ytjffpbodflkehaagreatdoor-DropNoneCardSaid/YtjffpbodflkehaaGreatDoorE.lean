/- The law's run in the machine: true, whatever the arguments. -/
import Derived.Test.YtjffpbodflkehaaGreatDoorT
import Derived.KernelRfl
set_option maxRecDepth 1000000
namespace Go.Vm.T
theorem ev1t : pcallS Ph 100000 4 [.int .i64 1, .bool true] = some (.bool true) := by kernel_rfl
theorem ev1f : pcallS Ph 100000 4 [.int .i64 1, .bool false] = some (.bool true) := by kernel_rfl
theorem ev2t : pcallS Ph 100000 4 [.int .i64 2, .bool true] = some (.bool true) := by kernel_rfl
theorem ev2f : pcallS Ph 100000 4 [.int .i64 2, .bool false] = some (.bool true) := by kernel_rfl
theorem ev3t : pcallS Ph 100000 4 [.int .i64 3, .bool true] = some (.bool true) := by kernel_rfl
theorem ev3f : pcallS Ph 100000 4 [.int .i64 3, .bool false] = some (.bool true) := by kernel_rfl
theorem ev0 (b : Bool) : pcallS Ph 100000 4 [.int .i64 (Int.ofNat 0), .bool b] = some (.bool true) := by kernel_rfl
theorem evN (m : Nat) (b : Bool) : pcallS Ph 100000 4 [.int .i64 (Int.negSucc m), .bool b] = some (.bool true) := by kernel_rfl
theorem evP (m : Nat) (b : Bool) : pcallS Ph 100000 4 [.int .i64 (Int.ofNat (Nat.succ (Nat.succ (Nat.succ (Nat.succ m))))), .bool b] = some (.bool true) := by kernel_rfl
theorem law (n : Int) (b : Bool) : pcallS Ph 100000 4 [.int .i64 n, .bool b] = some (.bool true) := by
  match n with
  | .negSucc m => exact evN m b
  | .ofNat 0 => exact ev0 b
  | .ofNat 1 => cases b; exact ev1f; exact ev1t
  | .ofNat 2 => cases b; exact ev2f; exact ev2t
  | .ofNat 3 => cases b; exact ev3f; exact ev3t
  | .ofNat (m + 4) => exact evP m b
end Go.Vm.T
