/- Functions of the program: the machine's code, plain Lean, their equality; that the code is the program's. Printed by a program of mine. -/
import Derived.Test.YtjffpbodflkehaaGreatDoorOZ
import Derived.KernelRfl
set_option maxRecDepth 100000
set_option linter.unusedVariables false
namespace Go.Vm.T
open Go.Vm.I
noncomputable section
def c284A_2 : C := (.seq (.seq (.reg 0 none [m 12 (.t 5) 0, o 13 (.fld 1) [.t 2] 1, o 14 (.load false 1) [.t 13] 2, o 15 (.len 1) [.t 14] 3, o 16 (.bin .lss) [.t 12, .t 15] 4, m 17 (.t 16) 5, ⟨some 18, .fld 1, [.t 2], some (17, true), 0, 6⟩, ⟨some 19, .load false 1, [.t 18], some (17, true), 0, 7⟩, ⟨some 20, .mov, [.t 5], some (17, true), 0, 8⟩, ⟨some 21, .ix 2, [.t 19, .t 20], some (17, true), 0, 9⟩, ⟨some 22, .fld 0, [.t 21], some (17, true), 0, 10⟩, ⟨some 23, .load false 1, [.t 22], some (17, true), 0, 11⟩, ⟨some 24, .mov, [.t 1], some (17, true), 0, 12⟩, ⟨some 25, .bin .lss, [.t 23, .t 24], some (17, true), 0, 13⟩, o 26 .pick [.t 17, .t 25, .c cf] 14]) (.cond (.t 26) .skip (.exit 0))) (.blk 1 (.reg 0 none [m 27 (.t 5) 0, o 28 (.bin .add) [.t 27, .c (ci 1)] 1, m 5 (.t 28) 2])))
def c284A_s1 : C := (.seq (.reg 2 none [o 29 (.bsa 0 2 [(ci 0), .nilS] 0 []) [] 0, o 30 (.fld 1) [.t 2] 1, o 31 (.load false 1) [.t 30] 2, m 32 (.t 5) 3, o 33 (.sub 2 false true false) [.t 31, .t 32] 4, o 34 (.appA 1 2 32) [.t 29, .t 33] 5, m 6 (.t 34) 6]) (.seq (.reg 3 none [m 35 (.t 6) 0, m 36 (.t 1) 1, o 37 (.mksl 0 1 [(.d (.int .u8 0))] 1) [.c (ci 16), .c (ci 16)] 2, o 38 (.build [(ci 0), .nilS] [(0, 1), (1, 1)]) [.t 36, .t 37] 3, o 39 (.bsa 1 2 [(ci 0), .nilS] 1 [0]) [.t 38] 4, o 40 (.appA 2 2 32) [.t 35, .t 39] 5, m 6 (.t 40) 6]) (.seq (.reg 1 none [m 41 (.t 6) 0, o 42 (.fld 1) [.t 2] 1, o 43 (.load false 1) [.t 42] 2, m 44 (.t 5) 3, o 45 (.sub 2 true false false) [.t 43, .t 44] 4, o 46 (.appA 0 2 32) [.t 41, .t 45] 5, o 47 (.fld 1) [.t 2] 6, ⟨none, .store 1, [.t 47, .t 46], none, 0, 7⟩]) (.seq (.reg 0 none [o 48 (.load true 2) [.t 2] 0, ⟨none, .store 2, [.t 4, .t 48], none, 0, 1⟩]) .ret))))
def c284A_1 : C := (.seq (.reg 2 none [o 2 (.box 0) [.t 0] 0, o 4 (.alloc 1 [(ci 0), .nilS]) [] 1]) (.seq (.seq (.reg 0 none [o 7 (.load true 2) [.t 2] 0, m 8 (.t 1) 1, o 9 (.icall 10283) [.t 7, .t 8] 2, o 10 (.bin .geq) [.t 9, .c (ci 0)] 3]) (.cond (.t 10) (.seq (.reg 0 none [o 11 (.load true 2) [.t 2] 0, ⟨none, .store 2, [.t 4, .t 11], none, 0, 1⟩]) .ret) .skip)) (.seq (.reg 0 none [m 5 (.c (ci 0)) 0]) (.seq (.blk 0 (.loop 1125899906842678 false c284A_2)) c284A_s1))))
def c284A : Fn := { fid := 284, np := 2, ntmps := 49, body := (.jn 562949953421315 c284A_1), res := [.cell 4 true 2] }
def d284A_1 (c : Cx) (t0 t1 : V) (H : List Blk) : X := stepK c.pc c.ic c.n (.jn 562949953421315 c284A_1) (cn 0 49 [(0, t0), (1, t1)]) H (kTop c284A.res)
def k284A_1 (c : Cx) : KT := thenK (stepK c.pc c.ic c.n c284A_s1) (kTop c284A.res)
def k284A_2 (c : Cx) : KT := blkK 0 (k284A_1 c)
def d284A_2 (c : Cx) (m n2 : Nat) (t1 t2 t4 t5 : V) (H : List Blk) : X := jnK (loopsK (stepK c.pc c.ic c.n c284A_2) 1125899906842678 false n2 m) (cn 0 49 [(1, t1), (2, t2), (4, t4), (5, t5)]) H (k284A_2 c) 1125899906842678
def b284A_2 (c : Cx) (r2 : F4) (n2 : Nat) (t1 t2 t4 t5 : V) (H : List Blk) : X := p (aFld 1 t2) fun x1 => (fun (t1 t2 t4 t5 x1 : V) (H : L) (r2 : F4) => (aLoad false 1 x1).go H fun x2 H => (aLen 1 x2).go H fun x3 H => p (aBin .lss t5 x3) fun x4 => guardK x4 true (fun k => (aFld 1 t2).go H k) H fun x5 H => (fun (t1 t2 t4 t5 x4 x5 : V) (H : L) (r2 : F4) => guardK x4 true (fun k => (aLoad false 1 x5).go H k) H fun x6 H => guardK x4 true (fun k => (aMov t5).go H k) H fun x7 H => guardK x4 true (fun k => (aIx 2 x6 x7).go H k) H fun x8 H => guardK x4 true (fun k => (aFld 0 x8).go H k) H fun x9 H => (fun (t1 t2 t4 t5 x4 x9 : V) (H : L) (r2 : F4) => guardK x4 true (fun k => (aLoad false 1 x9).go H k) H fun x10 H => guardK x4 true (fun k => (aMov t1).go H k) H fun x11 H => guardK x4 true (fun k => (aBin .lss x10 x11).go H k) H fun x12 H => p (aPick x4 x12 cf) fun x13 => condK x13 (p (aBin .add t5 (ci 1)) fun x14 => r2 t1 t2 t4 x14 H) ((fun (t1 t2 t4 t5 : V) (H : L) => newK 2 H fun q H => (aBsa (q + 0) 2 [(ci 0), .nilS] 0 [] []).go H fun x15 H => (fun (t1 t2 t4 t5 x15 : V) (q : Nat) (H : L) => p (aFld 1 t2) fun x16 => (aLoad false 1 x16).go H fun x17 H => (aSub 2 false true false x17 [t5]).go H fun x18 H => (aAppA (q + 1) 2 32 x15 x18).go H fun x19 H => newK 3 H fun q H => (fun (t1 t2 t4 t5 x19 : V) (q : Nat) (H : L) => (aMksl (q + 0) 1 [(.d (.int .u8 0))] 1 (ci 16) (ci 16)).go H fun x20 H => p (aBuild [(ci 0), .nilS] [(0, 1), (1, 1)] [t1, x20]) fun x21 => (aBsa (q + 1) 2 [(ci 0), .nilS] 1 [0] [x21]).go H fun x22 H => (aAppA (q + 2) 2 32 x19 x22).go H fun x23 H => newK 1 H fun q H => p (aFld 1 t2) fun x24 => (aLoad false 1 x24).go H fun x25 H => (fun (t2 t4 t5 x23 x25 : V) (q : Nat) (H : L) => (aSub 2 true false false x25 [t5]).go H fun x26 H => (aAppA (q + 0) 2 32 x23 x26).go H fun x27 H => p (aFld 1 t2) fun x28 => (aStore 1 x28 x27).go H fun _ H => (aLoad true 2 t2).go H fun x29 H => (aStore 2 t4 x29).go H fun _ H => bnd (loadV true 2 t4 H) fun x30 => some (x30, H)) t2 t4 t5 x23 x25 q H) t1 t2 t4 t5 x19 q H) t1 t2 t4 t5 x15 q H) t1 t2 t4 t5 H)) t1 t2 t4 t5 x4 x9 H r2) t1 t2 t4 t5 x4 x5 H r2) t1 t2 t4 t5 x1 H r2
def j284A_2 (c : Cx) : Nat → Nat → F4 := recN (fun _ _ _ _ _ _ => none) fun ih n2 => b284A_2 c (ih n2) n2
theorem o284A_2 (c : Cx) : d284A_2 c = j284A_2 c := by
  unfold j284A_2
  refine recN_ok (by kernel_rfl) fun m => funext fun n2 => ?_
  funext t1 t2 t4 t5 H
  refine Eq.trans (jnK_eq 1125899906842678 _ _ H _) ?_
  kernel_rfl
def b284A_1 (c : Cx) (j2 : Nat → Nat → F4) (t0 t1 : V) (H : List Blk) : X := newK 2 H fun q H => (aBox (q + 0) t0).go H fun x1 H => (aAlloc (q + 1) [(ci 0), .nilS]).go H fun x2 H => (aLoad true 2 x1).go H fun x3 H => icK c 10283 [x3, t1] H fun x4 H => p (aBin .geq x4 (ci 0)) fun x5 => condK x5 ((aLoad true 2 x1).go H fun x6 H => (aStore 2 x2 x6).go H fun _ H => bnd (loadV true 2 x2 H) fun x7 => some (x7, H)) (j2 c.n H.length t1 x1 x2 (ci 0) H)
def j284A_1 (c : Cx) : F2 := b284A_1 c (j284A_2 c)
theorem o284A_1 (c : Cx) : d284A_1 c = j284A_1 c := by
  unfold j284A_1; rw [← o284A_2]
  funext t0 t1 H
  refine Eq.trans (stepK_jn c.pc c.ic c.n _ H _ 562949953421315 c284A_1) ?_
  kernel_rfl
def b284A_0 (c : Cx) (j1 : F2) (t0 t1 : V) (H : List Blk) : X := j1 t0 t1 H
def s284A (c : Cx) (args : List V) (H : List Blk) : X := argsK 2 args (b284A_0 c (j284A_1 c) (getT args 0) (getT args 1) H)
theorem e284A (pc ic n args H) : runK pc ic n c284A args H = s284A ⟨pc, ic, n⟩ args H := by
  unfold s284A; rw [← o284A_1]
  kernel_rfl
def L284A : Leaf := ⟨c284A, fun pc ic n => s284A ⟨pc, ic, n⟩, e284A⟩
theorem kk284A : chkFn Go.Proofs.Tryz.prog ET 10284 c284A = true := by kernel_rfl

end
end Go.Vm.T
