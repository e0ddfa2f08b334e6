/- Rows of constants that the functions share. Printed by a program of mine. -/
import Derived.Test.YtjffpbodflkehaaGreatDoorOVmCps
import Derived.Test.YtjffpbodflkehaaGreatDoorOVmMemo
import Derived.Test.YtjffpbodflkehaaGreatDoorOVmInst
import Derived.KernelRfl
set_option maxRecDepth 100000
set_option linter.unusedVariables false
namespace Go.Vm.T
open Go.Vm.I
noncomputable section
def z0 : List V := [(ci 0), (ci 0), (ci 0), .nilS]
def z1 : List V := [(ci 0), (ci 0), (ci 0), (ci 0), (ci 0), .nilS, (.d (.str [])), .nilS]
def z2 : List (Nat × Nat) := [(0, 1), (1, 1), (2, 1), (3, 1)]
def z3 : List D := [(.int .i64 0), (.int .i64 0), (.int .i64 0), (.int .i64 0), (.int .i64 0), .list [], (.str []), .list []]
def z4 : List D := [(.int .i64 0), .list []]
def z5 : List D := [(.str []), (.int .i64 0)]
def z6 : List V := [(.d (.str [])), (ci 0)]
def z7 : List (Nat × Nat) := [(0, 1), (1, 1), (2, 1), (3, 1), (4, 2), (6, 1)]
def z9 : List V := [.nilS, .nilS, (ci 0), (ci 0), (ci 0), (ci 0), (ci 0)]
def z10 : List V := [(ci 0), .nilS, .nilS, (ci 0)]
def z11 : List V := [(ci 0), (ci 0), (ci 0)]
def z12 : List D := [(.int .i64 0), (.int .i64 0), (.int .i64 0)]
def z13 : List D := [(.int .i64 0), (.int .i64 0)]
def z14 : List V := [.nilS, (ci 0), .nilS, (ci 0), .nilS, .nilS, (ci 0)]
def z15 : List D := [(.int .i64 0), (.int .i64 0), (.int .i64 0), .list []]
def z16 : List V := [(ci 0), (.d (.str [])), (.d (.str [])), (ci 0), (ci 0), (ci 0), .nilS]
def z17 : List (Nat × Nat) := [(0, 1), (1, 1), (3, 1)]
def z18 : List (Nat × Nat) := [(0, 1), (1, 1), (6, 1)]
def z19 : List (Nat × Nat) := [(0, 1), (1, 1), (2, 1)]
def z20 : List D := [(.int .i64 0), (.str []), (.str []), (.int .i64 0), (.int .i64 0), (.int .i64 0), .list []]
end
end Go.Vm.T
