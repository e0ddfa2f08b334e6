/- Functions of the program: the machine's code, plain Lean, their equality; that the code is the program's. Printed by a program of mine. -/
import Derived.Test.YtjffpbodflkehaaGreatDoorZ
import Derived.KernelRfl
set_option maxRecDepth 100000
set_option linter.unusedVariables false
namespace Go.Vm.T
open Go.Vm.I
noncomputable section
def c62_5 : C := (.cond (.t 77) (.reg 0 none [o 81 (.load true 4) [.t 3] 0, o 82 (.load true 7) [.t 5] 1, m 83 (.t 9) 2, o 84 (.call 120) [.t 81, .t 82, .t 83] 3, m 80 (.t 84) 4, o 85 (.ext 0) [.t 80] 5, o 86 (.ext 1) [.t 80] 6, ⟨none, .store 4, [.t 12, .t 85], none, 0, 7⟩, m 10 (.t 86) 8]) (.seq (.reg 0 none [o 88 (.bin .eql) [.t 58, .c (ci 3)] 0, m 87 (.t 88) 1]) (.cond (.t 87) (.reg 0 none [o 90 (.load true 4) [.t 3] 0, m 91 (.t 9) 1, m 92 (.t 11) 2, o 93 (.call 121) [.t 90, .t 91, .t 92] 3, m 89 (.t 93) 4, o 94 (.ext 0) [.t 89] 5, o 95 (.ext 1) [.t 89] 6, ⟨none, .store 4, [.t 12, .t 94], none, 0, 7⟩, m 10 (.t 95) 8]) (.seq (.reg 0 none [o 97 (.bin .eql) [.t 58, .c (ci 6)] 0, m 96 (.t 97) 1]) (.cond (.t 96) (.reg 0 none [o 99 (.load true 4) [.t 3] 0, m 100 (.t 9) 1, m 101 (.t 11) 2, o 102 (.call 122) [.t 99, .t 100, .t 101] 3, m 98 (.t 102) 4, o 103 (.ext 0) [.t 98] 5, o 104 (.ext 1) [.t 98] 6, ⟨none, .store 4, [.t 12, .t 103], none, 0, 7⟩, m 10 (.t 104) 8]) (.seq (.reg 0 none [o 59 (.load true 4) [.t 3] 0, o 60 (.load true 7) [.t 5] 1, m 61 (.t 9) 2, o 62 (.call 123) [.t 59, .t 60, .t 61] 3, o 63 (.ext 0) [.t 62] 4, o 64 (.ext 1) [.t 62] 5, o 65 (.ext 2) [.t 62] 6, ⟨none, .store 4, [.t 6, .t 63], none, 0, 7⟩, ⟨none, .store 7, [.t 7, .t 64], none, 0, 8⟩, m 8 (.t 65) 9]) .ret))))))
def c62_4 : C := (.cond (.t 66) (.reg 0 none [o 71 (.load true 4) [.t 3] 0, o 72 (.load true 7) [.t 5] 1, m 73 (.t 9) 2, o 74 (.call 119) [.t 71, .t 72, .t 73] 3, m 70 (.t 74) 4, o 75 (.ext 0) [.t 70] 5, o 76 (.ext 1) [.t 70] 6, ⟨none, .store 4, [.t 12, .t 75], none, 0, 7⟩, m 10 (.t 76) 8]) (.seq (.seq (.reg 0 none [o 78 (.bin .eql) [.t 58, .c (ci 4)] 0, m 77 (.t 78) 1]) (.cond (.t 77) .skip (.reg 0 none [o 79 (.bin .eql) [.t 58, .c (ci 5)] 0, m 77 (.t 79) 1]))) (.jn 1622592768443249649597984901438184 c62_5)))
def c62_6 : C := (.seq (.reg 0 none [o 105 (.load true 4) [.t 12] 0, o 106 (.build z9 []) [] 1, m 107 (.t 10) 2, ⟨none, .store 4, [.t 6, .t 105], none, 0, 3⟩, ⟨none, .store 7, [.t 7, .t 106], none, 0, 4⟩, m 8 (.t 107) 5]) .ret)
def c62_3 : C := (.seq (.seq (.reg 0 none [m 51 (.t 10) 0, o 52 (.bin .neq) [.t 51, .c (ci 0)] 1]) (.cond (.t 52) (.seq (.reg 0 none [o 53 (.load true 4) [.t 3] 0, o 54 (.build z9 []) [] 1, m 55 (.t 10) 2, ⟨none, .store 4, [.t 6, .t 53], none, 0, 3⟩, ⟨none, .store 7, [.t 7, .t 54], none, 0, 4⟩, m 8 (.t 55) 5]) .ret) .skip)) (.seq (.reg 1 none [o 56 (.load true 4) [.t 3] 0, o 12 (.alloc 0 z0) [] 1, ⟨none, .store 4, [.t 12, .t 56], none, 0, 2⟩]) (.seq (.seq (.reg 0 none [o 57 (.fld 0) [.t 5] 0, o 58 (.load false 1) [.t 57] 1]) (.blk 0 (.seq (.seq (.reg 0 none [o 67 (.bin .eql) [.t 58, .c (ci 1)] 0, m 66 (.t 67) 1]) (.cond (.t 66) .skip (.seq (.reg 0 none [o 68 (.bin .eql) [.t 58, .c (ci 2)] 0, m 66 (.t 68) 1]) (.cond (.t 66) .skip (.reg 0 none [o 69 (.bin .eql) [.t 58, .c (ci 13)] 0, m 66 (.t 69) 1]))))) (.jn 1298074214633780982339295072230120 c62_4)))) (.jn 1947111321950560360698936123462848 c62_6))))
def c62_2 : C := (.seq (.seq (.reg 0 none [m 41 (.t 10) 0, o 42 (.bin .eql) [.t 41, .c (ci 0)] 1, m 43 (.t 42) 2, ⟨some 44, .mov, [.t 1], some (43, true), 0, 3⟩, o 45 .pick [.t 43, .t 44, .c cf] 4, m 46 (.t 45) 5, ⟨some 47, .load true 7, [.t 5], some (46, true), 0, 6⟩, ⟨some 48, .call 28, [.t 47], some (46, true), 0, 7⟩, ⟨some 49, .un .not, [.t 48], some (46, true), 0, 8⟩, o 50 .pick [.t 46, .t 49, .c cf] 9]) (.cond (.t 50) (.reg 0 none [m 10 (.c (ci 10)) 0]) .skip)) (.jn 973555660975280180349468061732584 c62_3))
def c62_1 : C := (.seq (.reg 4 none [o 3 (.box 0) [.t 0] 0, o 5 (.box 1) [.t 2] 1, o 6 (.alloc 2 z0) [] 2, o 7 (.alloc 3 z9) [] 3, m 8 (.c (ci 0)) 4]) (.seq (.seq (.reg 0 none [o 13 (.fld 0) [.t 5] 0, o 14 (.load false 1) [.t 13] 1, o 15 (.bin .lss) [.t 14, .c (ci 1)] 2, m 16 (.t 15) 3, ⟨some 17, .fld 0, [.t 5], some (16, false), 0, 4⟩, ⟨some 18, .load false 1, [.t 17], some (16, false), 0, 5⟩, ⟨some 19, .bin .gtr, [.t 18, .c (ci 14)], some (16, false), 0, 6⟩, o 20 .pick [.t 16, .c ct, .t 19] 7]) (.cond (.t 20) (.seq (.reg 0 none [o 21 (.load true 4) [.t 3] 0, o 22 (.build z9 []) [] 1, ⟨none, .store 4, [.t 6, .t 21], none, 0, 2⟩, ⟨none, .store 7, [.t 7, .t 22], none, 0, 3⟩, m 8 (.c (ci 1)) 4]) .ret) .skip)) (.seq (.reg 0 none [o 24 (.fld 1) [.t 5] 0, o 25 (.load false 1) [.t 24] 1, o 26 (.call 63) [.t 25] 2, m 23 (.t 26) 3, o 27 (.ext 0) [.t 23] 4, o 28 (.ext 1) [.t 23] 5, m 9 (.t 27) 6, m 10 (.t 28) 7]) (.seq (.reg 0 none [m 11 (.c .nilS) 0]) (.seq (.seq (.reg 0 none [m 29 (.t 10) 0, o 30 (.bin .eql) [.t 29, .c (ci 0)] 1, m 31 (.t 30) 2, ⟨some 32, .load true 7, [.t 5], some (31, true), 0, 3⟩, ⟨some 33, .call 61, [.t 32], some (31, true), 0, 4⟩, o 34 .pick [.t 31, .t 33, .c cf] 5]) (.cond (.t 34) (.reg 0 none [o 36 (.fld 2) [.t 5] 0, o 37 (.load false 1) [.t 36] 1, o 38 (.call 63) [.t 37] 2, m 35 (.t 38) 3, o 39 (.ext 0) [.t 35] 4, o 40 (.ext 1) [.t 35] 5, m 11 (.t 39) 6, m 10 (.t 40) 7]) .skip)) (.jn 649037107316853453566312041156330 c62_2))))))
def c62 : Fn := { fid := 62, np := 3, ntmps := 108, body := (.jn 324518553658426726783156020576263 c62_1), res := [.cell 6 true 4, .cell 7 true 7, .tmp 8] }
def d62_1 (c : Cx) (t0 t1 t2 : V) (H : List Blk) : X := stepK c.pc c.ic c.n (.jn 324518553658426726783156020576263 c62_1) (cn 0 108 [(0, t0), (1, t1), (2, t2)]) H (kTop c62.res)
def d62_2 (c : Cx) (t1 t3 t5 t6 t7 t9 t10 t11 : V) (H : List Blk) : X := stepK c.pc c.ic c.n (.jn 649037107316853453566312041156330 c62_2) (cn 0 108 [(1, t1), (3, t3), (5, t5), (6, t6), (7, t7), (9, t9), (10, t10), (11, t11)]) H (kTop c62.res)
def d62_3 (c : Cx) (t3 t5 t6 t7 t9 t10 t11 : V) (H : List Blk) : X := stepK c.pc c.ic c.n (.jn 973555660975280180349468061732584 c62_3) (cn 0 108 [(3, t3), (5, t5), (6, t6), (7, t7), (9, t9), (10, t10), (11, t11)]) H (kTop c62.res)
def k62_1 (c : Cx) : KT := thenK (stepK c.pc c.ic c.n (.jn 1947111321950560360698936123462848 c62_6)) (kTop c62.res)
def k62_2 (c : Cx) : KT := blkK 0 (k62_1 c)
def d62_4 (c : Cx) (t3 t5 t6 t7 t9 t11 t12 t58 t66 : V) (H : List Blk) : X := stepK c.pc c.ic c.n (.jn 1298074214633780982339295072230120 c62_4) (cn 0 108 [(3, t3), (5, t5), (6, t6), (7, t7), (9, t9), (11, t11), (12, t12), (58, t58), (66, t66)]) H (k62_2 c)
def d62_6 (c : Cx) (t6 t7 t10 t12 : V) (H : List Blk) : X := stepK c.pc c.ic c.n (.jn 1947111321950560360698936123462848 c62_6) (cn 0 108 [(6, t6), (7, t7), (10, t10), (12, t12)]) H (kTop c62.res)
def b62_6 (c : Cx) (t6 t7 t10 t12 : V) (H : List Blk) : X := (aLoad true 4 t12).go H fun x1 H => p (aBuild z9 [] []) fun x2 => (aStore 4 t6 x1).go H fun _ H => (aStore 7 t7 x2).go H fun _ H => bnd (loadV true 4 t6 H) fun x3 => bnd (loadV true 7 t7 H) fun x4 => some (.tup [x3, x4, t10], H)
def j62_6 (c : Cx) : F4 := b62_6 c
theorem o62_6 (c : Cx) : d62_6 c = j62_6 c := by
  unfold j62_6
  funext t6 t7 t10 t12 H
  refine Eq.trans (stepK_jn c.pc c.ic c.n _ H _ 1947111321950560360698936123462848 c62_6) ?_
  kernel_rfl
def d62_5 (c : Cx) (t3 t5 t6 t7 t9 t11 t12 t58 t77 : V) (H : List Blk) : X := stepK c.pc c.ic c.n (.jn 1622592768443249649597984901438184 c62_5) (cn 0 108 [(3, t3), (5, t5), (6, t6), (7, t7), (9, t9), (11, t11), (12, t12), (58, t58), (77, t77)]) H (k62_2 c)
def b62_5 (c : Cx) (j6 : F4) (t3 t5 t6 t7 t9 t11 t12 t58 t77 : V) (H : List Blk) : X := condK t77 ((fun (t3 t5 t6 t7 t9 t12 : V) (H : L) (c : Cx) (j6 : F4) => (aLoad true 4 t3).go H fun x1 H => (aLoad true 7 t5).go H fun x2 H => p (aCall c.pc 120 [x1, x2, t9]) fun x3 => p (aExt 0 x3) fun x4 => p (aExt 1 x3) fun x5 => (aStore 4 t12 x4).go H fun _ H => j6 t6 t7 x5 t12 H) t3 t5 t6 t7 t9 t12 H c j6) ((fun (t3 t5 t6 t7 t9 t11 t12 t58 : V) (H : L) (c : Cx) (j6 : F4) => p (aBin .eql t58 (ci 3)) fun x6 => condK x6 ((fun (t3 t6 t7 t9 t11 t12 : V) (H : L) (c : Cx) (j6 : F4) => (aLoad true 4 t3).go H fun x7 H => p (aCall c.pc 121 [x7, t9, t11]) fun x8 => p (aExt 0 x8) fun x9 => p (aExt 1 x8) fun x10 => (aStore 4 t12 x9).go H fun _ H => j6 t6 t7 x10 t12 H) t3 t6 t7 t9 t11 t12 H c j6) ((fun (t3 t5 t6 t7 t9 t11 t12 t58 : V) (H : L) (c : Cx) (j6 : F4) => p (aBin .eql t58 (ci 6)) fun x11 => condK x11 ((fun (t3 t6 t7 t9 t11 t12 : V) (H : L) (c : Cx) (j6 : F4) => (aLoad true 4 t3).go H fun x12 H => p (aCall c.pc 122 [x12, t9, t11]) fun x13 => p (aExt 0 x13) fun x14 => p (aExt 1 x13) fun x15 => (aStore 4 t12 x14).go H fun _ H => j6 t6 t7 x15 t12 H) t3 t6 t7 t9 t11 t12 H c j6) ((fun (t3 t5 t6 t7 t9 : V) (H : L) (c : Cx) => (aLoad true 4 t3).go H fun x16 H => (aLoad true 7 t5).go H fun x17 H => p (aCall c.pc 123 [x16, x17, t9]) fun x18 => p (aExt 0 x18) fun x19 => (fun (t6 t7 x18 x19 : V) (H : L) => p (aExt 1 x18) fun x20 => p (aExt 2 x18) fun x21 => (aStore 4 t6 x19).go H fun _ H => (aStore 7 t7 x20).go H fun _ H => bnd (loadV true 4 t6 H) fun x22 => bnd (loadV true 7 t7 H) fun x23 => some (.tup [x22, x23, x21], H)) t6 t7 x18 x19 H) t3 t5 t6 t7 t9 H c)) t3 t5 t6 t7 t9 t11 t12 t58 H c j6)) t3 t5 t6 t7 t9 t11 t12 t58 H c j6)
def j62_5 (c : Cx) : F9 := b62_5 c (j62_6 c)
theorem o62_5 (c : Cx) : d62_5 c = j62_5 c := by
  unfold j62_5; rw [← o62_6]
  funext t3 t5 t6 t7 t9 t11 t12 t58 t77 H
  refine Eq.trans (stepK_jn c.pc c.ic c.n _ H _ 1622592768443249649597984901438184 c62_5) ?_
  kernel_rfl
def b62_4 (c : Cx) (j5 : F9) (j6 : F4) (t3 t5 t6 t7 t9 t11 t12 t58 t66 : V) (H : List Blk) : X := condK t66 ((fun (t3 t5 t6 t7 t9 t12 : V) (H : L) (c : Cx) (j6 : F4) => (aLoad true 4 t3).go H fun x1 H => (aLoad true 7 t5).go H fun x2 H => p (aCall c.pc 119 [x1, x2, t9]) fun x3 => p (aExt 0 x3) fun x4 => p (aExt 1 x3) fun x5 => (aStore 4 t12 x4).go H fun _ H => j6 t6 t7 x5 t12 H) t3 t5 t6 t7 t9 t12 H c j6) (p (aBin .eql t58 (ci 4)) fun x6 => condK x6 (j5 t3 t5 t6 t7 t9 t11 t12 t58 x6 H) (p (aBin .eql t58 (ci 5)) fun x7 => j5 t3 t5 t6 t7 t9 t11 t12 t58 x7 H))
def j62_4 (c : Cx) : F9 := b62_4 c (j62_5 c) (j62_6 c)
theorem o62_4 (c : Cx) : d62_4 c = j62_4 c := by
  unfold j62_4; rw [← o62_5, ← o62_6]
  funext t3 t5 t6 t7 t9 t11 t12 t58 t66 H
  refine Eq.trans (stepK_jn c.pc c.ic c.n _ H _ 1298074214633780982339295072230120 c62_4) ?_
  kernel_rfl
def b62_3 (c : Cx) (j4 : F9) (t3 t5 t6 t7 t9 t10 t11 : V) (H : List Blk) : X := p (aBin .neq t10 (ci 0)) fun x1 => condK x1 ((fun (t3 t6 t7 t10 : V) (H : L) => (aLoad true 4 t3).go H fun x2 H => p (aBuild z9 [] []) fun x3 => (aStore 4 t6 x2).go H fun _ H => (aStore 7 t7 x3).go H fun _ H => bnd (loadV true 4 t6 H) fun x4 => bnd (loadV true 7 t7 H) fun x5 => some (.tup [x4, x5, t10], H)) t3 t6 t7 t10 H) ((fun (t3 t5 t6 t7 t9 t11 : V) (H : L) (j4 : F9) => newK 1 H fun q H => (aLoad true 4 t3).go H fun x6 H => (aAlloc (q + 0) z0).go H fun x7 H => (aStore 4 x7 x6).go H fun _ H => p (aFld 0 t5) fun x8 => (aLoad false 1 x8).go H fun x9 H => p (aBin .eql x9 (ci 1)) fun x10 => condK x10 (j4 t3 t5 t6 t7 t9 t11 x7 x9 x10 H) (p (aBin .eql x9 (ci 2)) fun x11 => condK x11 (j4 t3 t5 t6 t7 t9 t11 x7 x9 x11 H) (p (aBin .eql x9 (ci 13)) fun x12 => j4 t3 t5 t6 t7 t9 t11 x7 x9 x12 H))) t3 t5 t6 t7 t9 t11 H j4)
def j62_3 (c : Cx) : F7 := b62_3 c (j62_4 c)
theorem o62_3 (c : Cx) : d62_3 c = j62_3 c := by
  unfold j62_3; rw [← o62_4]
  funext t3 t5 t6 t7 t9 t10 t11 H
  refine Eq.trans (stepK_jn c.pc c.ic c.n _ H _ 973555660975280180349468061732584 c62_3) ?_
  kernel_rfl
def b62_2 (c : Cx) (j3 : F7) (t1 t3 t5 t6 t7 t9 t10 t11 : V) (H : List Blk) : X := p (aBin .eql t10 (ci 0)) fun x1 => guardK x1 true (fun k => (aMov t1).go H k) H fun x2 H => p (aPick x1 x2 cf) fun x3 => (fun (t3 t5 t6 t7 t9 t10 t11 x3 : V) (H : L) (c : Cx) (j3 : F7) => guardK x3 true (fun k => (aLoad true 7 t5).go H k) H fun x4 H => guardK x3 true (fun k => (aCall c.pc 28 [x4]).go H k) H fun x5 H => guardK x3 true (fun k => (aUn .not x5).go H k) H fun x6 H => p (aPick x3 x6 cf) fun x7 => condK x7 (j3 t3 t5 t6 t7 t9 (ci 10) t11 H) (j3 t3 t5 t6 t7 t9 t10 t11 H)) t3 t5 t6 t7 t9 t10 t11 x3 H c j3
def j62_2 (c : Cx) : F8 := b62_2 c (j62_3 c)
theorem o62_2 (c : Cx) : d62_2 c = j62_2 c := by
  unfold j62_2; rw [← o62_3]
  funext t1 t3 t5 t6 t7 t9 t10 t11 H
  refine Eq.trans (stepK_jn c.pc c.ic c.n _ H _ 649037107316853453566312041156330 c62_2) ?_
  kernel_rfl
def b62_1 (c : Cx) (j2 : F8) (t0 t1 t2 : V) (H : List Blk) : X := newK 4 H fun q H => (fun (t0 t1 t2 : V) (q : Nat) (H : L) (c : Cx) (j2 : F8) => (aBox (q + 0) t0).go H fun x1 H => (aBox (q + 1) t2).go H fun x2 H => (aAlloc (q + 2) z0).go H fun x3 H => (aAlloc (q + 3) z9).go H fun x4 H => p (aFld 0 x2) fun x5 => (aLoad false 1 x5).go H fun x6 H => p (aBin .lss x6 (ci 1)) fun x7 => (fun (t1 x1 x2 x3 x4 x7 : V) (H : L) (c : Cx) (j2 : F8) => guardK x7 false (fun k => (aFld 0 x2).go H k) H fun x8 H => guardK x7 false (fun k => (aLoad false 1 x8).go H k) H fun x9 H => guardK x7 false (fun k => (aBin .gtr x9 (ci 14)).go H k) H fun x10 H => p (aPick x7 ct x10) fun x11 => condK x11 ((fun (x1 x3 x4 : V) (H : L) => (aLoad true 4 x1).go H fun x12 H => p (aBuild z9 [] []) fun x13 => (aStore 4 x3 x12).go H fun _ H => (aStore 7 x4 x13).go H fun _ H => bnd (loadV true 4 x3 H) fun x14 => bnd (loadV true 7 x4 H) fun x15 => some (.tup [x14, x15, (ci 1)], H)) x1 x3 x4 H) ((fun (t1 x1 x2 x3 x4 : V) (H : L) (c : Cx) (j2 : F8) => p (aFld 1 x2) fun x16 => (fun (t1 x1 x2 x3 x4 x16 : V) (H : L) (c : Cx) (j2 : F8) => (aLoad false 1 x16).go H fun x17 H => p (aCall c.pc 63 [x17]) fun x18 => p (aExt 0 x18) fun x19 => p (aExt 1 x18) fun x20 => p (aBin .eql x20 (ci 0)) fun x21 => guardK x21 true (fun k => (aLoad true 7 x2).go H k) H fun x22 H => guardK x21 true (fun k => (aCall c.pc 61 [x22]).go H k) H fun x23 H => p (aPick x21 x23 cf) fun x24 => condK x24 ((fun (t1 x1 x2 x3 x4 x19 : V) (H : L) (c : Cx) (j2 : F8) => p (aFld 2 x2) fun x25 => (aLoad false 1 x25).go H fun x26 H => p (aCall c.pc 63 [x26]) fun x27 => p (aExt 0 x27) fun x28 => p (aExt 1 x27) fun x29 => j2 t1 x1 x2 x3 x4 x19 x29 x28 H) t1 x1 x2 x3 x4 x19 H c j2) (j2 t1 x1 x2 x3 x4 x19 x20 .nilS H)) t1 x1 x2 x3 x4 x16 H c j2) t1 x1 x2 x3 x4 H c j2)) t1 x1 x2 x3 x4 x7 H c j2) t0 t1 t2 q H c j2
def j62_1 (c : Cx) : F3 := b62_1 c (j62_2 c)
theorem o62_1 (c : Cx) : d62_1 c = j62_1 c := by
  unfold j62_1; rw [← o62_2]
  funext t0 t1 t2 H
  refine Eq.trans (stepK_jn c.pc c.ic c.n _ H _ 324518553658426726783156020576263 c62_1) ?_
  kernel_rfl
def b62_0 (c : Cx) (j1 : F3) (t0 t1 t2 : V) (H : List Blk) : X := j1 t0 t1 t2 H
def s62 (c : Cx) (args : List V) (H : List Blk) : X := argsK 3 args (b62_0 c (j62_1 c) (getT args 0) (getT args 1) (getT args 2) H)
theorem e62 (pc ic n args H) : runK pc ic n c62 args H = s62 ⟨pc, ic, n⟩ args H := by
  unfold s62; rw [← o62_1]
  kernel_rfl
def L62 : Leaf := ⟨c62, fun pc ic n => s62 ⟨pc, ic, n⟩, e62⟩
theorem kk62 : chkFn Go.Proofs.Tryz.prog ET 62 c62 = true := by kernel_rfl

def c63_2 : C := (.seq (.seq (.reg 0 none [m 17 (.t 4) 0, m 18 (.t 0) 1, o 19 (.len 0) [.t 18] 2, o 20 (.bin .lss) [.t 17, .t 19] 3]) (.cond (.t 20) .skip (.exit 0))) (.seq (.blk 1 (.seq (.reg 0 none [m 23 (.t 0) 0, m 24 (.t 4) 1, o 25 .ixs [.t 23, .t 24] 2, o 26 (.bin .eql) [.t 25, .c (.d (.int .u8 0))] 3]) (.cond (.t 26) (.seq (.reg 0 none [m 2 (.c .nilS) 0, m 3 (.c (ci 1)) 1]) .ret) .skip))) (.reg 0 none [m 21 (.t 4) 0, o 22 (.bin .add) [.t 21, .c (ci 1)] 1, m 4 (.t 22) 2])))
def c63_3 : C := (.seq (.seq (.reg 0 none [m 30 (.t 7) 0, m 31 (.t 0) 1, o 32 (.len 0) [.t 31] 2, o 33 (.bin .leq) [.t 30, .t 32] 3]) (.cond (.t 33) .skip (.exit 2))) (.seq (.blk 3 (.seq (.seq (.reg 0 none [m 36 (.t 7) 0, m 37 (.t 0) 1, o 38 (.len 0) [.t 37] 2, o 39 (.bin .lss) [.t 36, .t 38] 3, m 40 (.t 39) 4, ⟨some 41, .mov, [.t 0], some (40, true), 0, 5⟩, ⟨some 42, .mov, [.t 7], some (40, true), 0, 6⟩, ⟨some 43, .ixs, [.t 41, .t 42], some (40, true), 0, 7⟩, ⟨some 44, .bin .neq, [.t 43, .c (.d (.int .u8 47))], some (40, true), 0, 8⟩, o 45 .pick [.t 40, .t 44, .c cf] 9]) (.cond (.t 45) (.exit 3) .skip)) (.seq (.reg 0 none [m 46 (.t 0) 0, m 47 (.t 6) 1, m 48 (.t 7) 2, o 49 (.subStr true true) [.t 46, .t 47, .t 48] 3, m 8 (.t 49) 4]) (.seq (.reg 0 none [m 50 (.t 7) 0, o 51 (.bin .add) [.t 50, .c (ci 1)] 1, m 6 (.t 51) 2]) (.blk 4 (.seq (.reg 0 none [m 59 (.t 8) 0, o 60 (.bin .eql) [.t 59, .c (.d (.str []))] 1, m 61 (.t 60) 2, ⟨some 62, .mov, [.t 8], some (61, false), 0, 3⟩, ⟨some 63, .bin .eql, [.t 62, .c (.d (.str [46]))], some (61, false), 0, 4⟩, o 64 .pick [.t 61, .c ct, .t 63] 5, m 58 (.t 64) 6]) (.cond (.t 58) .skip (.seq (.reg 0 none [m 66 (.t 8) 0, o 67 (.bin .eql) [.t 66, .c (.d (.str [46, 46]))] 1, m 65 (.t 67) 2]) (.cond (.t 65) (.reg 0 none [m 68 (.t 5) 0, m 69 (.t 5) 1, o 70 (.len 1) [.t 69] 2, o 71 (.bin .sub) [.t 70, .c (ci 1)] 3, o 72 .max [.t 71, .c (ci 0)] 4, o 73 (.sub 1 false true false) [.t 68, .t 72] 5, m 5 (.t 73) 6]) (.seq (.reg 0 none [m 75 (.t 8) 0, o 76 (.len 0) [.t 75] 1, o 77 (.bin .gtr) [.t 76, .c (ci 24)] 2, m 78 (.t 77) 3, ⟨some 79, .mov, [.t 5], some (78, false), 0, 4⟩, ⟨some 80, .len 1, [.t 79], some (78, false), 0, 5⟩, ⟨some 81, .bin .geq, [.t 80, .c (ci 16)], some (78, false), 0, 6⟩, o 82 .pick [.t 78, .c ct, .t 81] 7, m 74 (.t 82) 8]) (.cond (.t 74) (.seq (.reg 0 none [m 2 (.c .nilS) 0, m 3 (.c (ci 9)) 1]) .ret) (.reg 2 none [o 52 (.bsl 1 [(.str [])] 0 []) [] 0, m 53 (.t 5) 1, o 54 (.app 0 1 16) [.t 52, .t 53] 2, m 55 (.t 8) 3, o 56 (.bsl 1 [(.str [])] 1 [0]) [.t 55] 4, o 57 (.app 1 1 16) [.t 54, .t 56] 5, m 5 (.t 57) 6])))))))))))) (.reg 0 none [m 34 (.t 7) 0, o 35 (.bin .add) [.t 34, .c (ci 1)] 1, m 7 (.t 35) 2])))
def c63_s1 : C := (.seq (.reg 0 none [m 83 (.t 5) 0, m 2 (.t 83) 1, m 3 (.c (ci 0)) 2]) .ret)
def c63_s2 : C := (.seq (.seq (.reg 0 none [m 27 (.t 0) 0, o 28 (.len 0) [.t 27] 1, o 29 (.bin .gtr) [.t 28, .c (ci 120)] 2]) (.cond (.t 29) (.seq (.reg 0 none [m 2 (.c .nilS) 0, m 3 (.c (ci 9)) 1]) .ret) .skip)) (.seq (.reg 0 none [m 5 (.c .nilS) 0]) (.seq (.reg 0 none [m 6 (.c (ci 1)) 0]) (.seq (.seq (.reg 0 none [m 7 (.c (ci 1)) 0]) (.blk 2 (.loop 58028439341502200385896673 false c63_3))) c63_s1))))
def c63_1 : C := (.seq (.reg 0 none [m 2 (.c .nilS) 0, m 3 (.c (ci 0)) 1]) (.seq (.seq (.reg 0 none [m 9 (.t 0) 0, o 10 (.len 0) [.t 9] 1, o 11 (.bin .eql) [.t 10, .c (ci 0)] 2, m 12 (.t 11) 3, ⟨some 13, .mov, [.t 0], some (12, false), 0, 4⟩, ⟨some 14, .ixs, [.t 13, .c (ci 0)], some (12, false), 0, 5⟩, ⟨some 15, .bin .neq, [.t 14, .c (.d (.int .u8 47))], some (12, false), 0, 6⟩, o 16 .pick [.t 12, .c ct, .t 15] 7]) (.cond (.t 16) (.seq (.reg 0 none [m 2 (.c .nilS) 0, m 3 (.c (ci 1)) 1]) .ret) .skip)) (.seq (.seq (.reg 0 none [m 4 (.c (ci 0)) 0]) (.blk 0 (.loop 38685626227668133590597649 false c63_2))) c63_s2)))
def c63 : Fn := { fid := 63, np := 1, ntmps := 84, body := (.jn 19342813113834066795298817 c63_1), res := [.tmp 2, .tmp 3] }
def d63_1 (c : Cx) (t0 : V) (H : List Blk) : X := stepK c.pc c.ic c.n (.jn 19342813113834066795298817 c63_1) (cn 0 84 [(0, t0)]) H (kTop c63.res)
def k63_1 (c : Cx) : KT := thenK (stepK c.pc c.ic c.n c63_s2) (kTop c63.res)
def k63_2 (c : Cx) : KT := blkK 0 (k63_1 c)
def d63_2 (c : Cx) (m n2 : Nat) (t0 t4 : V) (H : List Blk) : X := jnK (loopsK (stepK c.pc c.ic c.n c63_2) 38685626227668133590597649 false n2 m) (cn 0 84 [(0, t0), (4, t4)]) H (k63_2 c) 38685626227668133590597649
def k63_3 (c : Cx) : KT := thenK (stepK c.pc c.ic c.n c63_s1) (kTop c63.res)
def k63_4 (c : Cx) : KT := blkK 2 (k63_3 c)
def d63_3 (c : Cx) (m n3 : Nat) (t0 t5 t6 t7 : V) (H : List Blk) : X := jnK (loopsK (stepK c.pc c.ic c.n c63_3) 58028439341502200385896673 false n3 m) (cn 0 84 [(0, t0), (5, t5), (6, t6), (7, t7)]) H (k63_4 c) 58028439341502200385896673
def b63_3 (c : Cx) (r3 : F4) (n3 : Nat) (t0 t5 t6 t7 : V) (H : List Blk) : X := (aLen 0 t0).go H fun x1 H => p (aBin .leq t7 x1) fun x2 => condK x2 ((fun (t0 t5 t6 t7 : V) (H : L) (r3 : F4) => (aLen 0 t0).go H fun x3 H => p (aBin .lss t7 x3) fun x4 => guardK x4 true (fun k => (aMov t0).go H k) H fun x5 H => (fun (t0 t5 t6 t7 x4 x5 : V) (H : L) (r3 : F4) => guardK x4 true (fun k => (aMov t7).go H k) H fun x6 H => guardK x4 true (fun k => (aIxs x5 x6).go H k) H fun x7 H => guardK x4 true (fun k => (aBin .neq x7 (.d (.int .u8 47))).go H k) H fun x8 H => p (aPick x4 x8 cf) fun x9 => condK x9 (p (aBin .add t7 (ci 1)) fun x10 => r3 t0 t5 t6 x10 H) ((fun (t0 t5 t6 t7 : V) (H : L) (r3 : F4) => p (aSubStr true true t0 [t6, t7]) fun x11 => p (aBin .add t7 (ci 1)) fun x12 => p (aBin .eql x11 (.d (.str []))) fun x13 => guardK x13 false (fun k => (aMov x11).go H k) H fun x14 H => guardK x13 false (fun k => (aBin .eql x14 (.d (.str [46]))).go H k) H fun x15 H => p (aPick x13 ct x15) fun x16 => condK x16 (p (aBin .add t7 (ci 1)) fun x17 => r3 t0 t5 x12 x17 H) ((fun (t0 t5 t7 x11 x12 : V) (H : L) (r3 : F4) => p (aBin .eql x11 (.d (.str [46, 46]))) fun x18 => condK x18 ((fun (t0 t5 t7 x12 : V) (H : L) (r3 : F4) => (aLen 1 t5).go H fun x19 H => p (aBin .sub x19 (ci 1)) fun x20 => p (aMax x20 [(ci 0)]) fun x21 => (aSub 1 false true false t5 [x21]).go H fun x22 H => p (aBin .add t7 (ci 1)) fun x23 => r3 t0 x22 x12 x23 H) t0 t5 t7 x12 H r3) ((fun (t0 t5 t7 x11 x12 : V) (H : L) (r3 : F4) => (aLen 0 x11).go H fun x24 H => p (aBin .gtr x24 (ci 24)) fun x25 => (fun (t0 t5 t7 x11 x12 x25 : V) (H : L) (r3 : F4) => guardK x25 false (fun k => (aMov t5).go H k) H fun x26 H => guardK x25 false (fun k => (aLen 1 x26).go H k) H fun x27 H => guardK x25 false (fun k => (aBin .geq x27 (ci 16)).go H k) H fun x28 H => p (aPick x25 ct x28) fun x29 => condK x29 (some (.tup [.nilS, (ci 9)], H)) ((fun (t0 t5 t7 x11 x12 : V) (H : L) (r3 : F4) => newK 2 H fun q H => (fun (t0 t5 t7 x11 x12 : V) (q : Nat) (H : L) (r3 : F4) => p (aBsl 1 [(.str [])] 0 [] []) fun x30 => (aApp (q + 0) 1 16 x30 t5).go H fun x31 H => p (aBsl 1 [(.str [])] 1 [0] [x11]) fun x32 => (aApp (q + 1) 1 16 x31 x32).go H fun x33 H => p (aBin .add t7 (ci 1)) fun x34 => r3 t0 x33 x12 x34 H) t0 t5 t7 x11 x12 q H r3) t0 t5 t7 x11 x12 H r3)) t0 t5 t7 x11 x12 x25 H r3) t0 t5 t7 x11 x12 H r3)) t0 t5 t7 x11 x12 H r3)) t0 t5 t6 t7 H r3)) t0 t5 t6 t7 x4 x5 H r3) t0 t5 t6 t7 H r3) (some (.tup [t5, (ci 0)], H))
def j63_3 (c : Cx) : Nat → Nat → F4 := recN (fun _ _ _ _ _ _ => none) fun ih n3 => b63_3 c (ih n3) n3
theorem o63_3 (c : Cx) : d63_3 c = j63_3 c := by
  unfold j63_3
  refine recN_ok (by kernel_rfl) fun m => funext fun n3 => ?_
  funext t0 t5 t6 t7 H
  refine Eq.trans (jnK_eq 58028439341502200385896673 _ _ H _) ?_
  kernel_rfl
def b63_2 (c : Cx) (r2 : F2) (j3 : Nat → Nat → F4) (n2 : Nat) (t0 t4 : V) (H : List Blk) : X := (aLen 0 t0).go H fun x1 H => p (aBin .lss t4 x1) fun x2 => condK x2 (p (aIxs t0 t4) fun x3 => p (aBin .eql x3 (.d (.int .u8 0))) fun x4 => condK x4 (some (.tup [.nilS, (ci 1)], H)) (p (aBin .add t4 (ci 1)) fun x5 => r2 t0 x5 H)) ((aLen 0 t0).go H fun x6 H => p (aBin .gtr x6 (ci 120)) fun x7 => condK x7 (some (.tup [.nilS, (ci 9)], H)) (j3 c.n H.length t0 .nilS (ci 1) (ci 1) H))
def j63_2 (c : Cx) : Nat → Nat → F2 := recN (fun _ _ _ _ => none) fun ih n2 => b63_2 c (ih n2) (j63_3 c) n2
theorem o63_2 (c : Cx) : d63_2 c = j63_2 c := by
  unfold j63_2
  refine recN_ok (by kernel_rfl) fun m => funext fun n2 => ?_
  simp only [← o63_3]
  funext t0 t4 H
  refine Eq.trans (jnK_eq 38685626227668133590597649 _ _ H _) ?_
  kernel_rfl
def b63_1 (c : Cx) (j2 : Nat → Nat → F2) (t0 : V) (H : List Blk) : X := (aLen 0 t0).go H fun x1 H => p (aBin .eql x1 (ci 0)) fun x2 => (fun (t0 x2 : V) (H : L) (c : Cx) (j2 : Nat → Nat → F2) => guardK x2 false (fun k => (aMov t0).go H k) H fun x3 H => guardK x2 false (fun k => (aIxs x3 (ci 0)).go H k) H fun x4 H => guardK x2 false (fun k => (aBin .neq x4 (.d (.int .u8 47))).go H k) H fun x5 H => p (aPick x2 ct x5) fun x6 => condK x6 (some (.tup [.nilS, (ci 1)], H)) (j2 c.n H.length t0 (ci 0) H)) t0 x2 H c j2
def j63_1 (c : Cx) : F1 := b63_1 c (j63_2 c)
theorem o63_1 (c : Cx) : d63_1 c = j63_1 c := by
  unfold j63_1; rw [← o63_2]
  funext t0 H
  refine Eq.trans (stepK_jn c.pc c.ic c.n _ H _ 19342813113834066795298817 c63_1) ?_
  kernel_rfl
def b63_0 (c : Cx) (j1 : F1) (t0 : V) (H : List Blk) : X := j1 t0 H
def s63 (c : Cx) (args : List V) (H : List Blk) : X := argsK 1 args (b63_0 c (j63_1 c) (getT args 0) H)
theorem e63 (pc ic n args H) : runK pc ic n c63 args H = s63 ⟨pc, ic, n⟩ args H := by
  unfold s63; rw [← o63_1]
  kernel_rfl
def L63 : Leaf := ⟨c63, fun pc ic n => s63 ⟨pc, ic, n⟩, e63⟩
theorem kk63 : chkFn Go.Proofs.Tryz.prog ET 63 c63 = true := by kernel_rfl

def c70_2 : C := (.seq (.seq (.reg 0 none [m 33 (.t 9) 0, o 34 (.bin .neq) [.t 33, .c (ci 0)] 1]) (.cond (.t 34) (.seq (.reg 0 none [o 35 (.load true 7) [.t 1] 0, ⟨none, .store 7, [.t 2, .t 35], none, 0, 1⟩, m 3 (.c (ci 8)) 2]) .ret) .skip)) (.seq (.reg 0 none [o 37 (.load true 4) [.t 4] 0, m 38 (.t 7) 1, o 39 (.call 148) [.t 37, .t 38, .c (ci 0)] 2, m 36 (.t 39) 3, o 40 (.ext 0) [.t 36] 4, o 41 (.ext 1) [.t 36] 5, ⟨none, .store 4, [.t 4, .t 40], none, 0, 6⟩]) (.seq (.reg 0 (some ⟨true, [0, 1, 2, 3, 4, 5, 6, 7, 9, 8, 10], 57⟩) [o 43 (.load true 4) [.t 4] 0, m 44 (.t 7) 1, o 45 (.fld 3) [.t 1] 2, ⟨some 46, .load true 4, [.t 45], none, 4, 3⟩, ⟨some 47, .call 151, [.t 46], none, 12, 4⟩, ⟨some 48, .call 147, [.t 43, .t 44, .c (ci 0), .t 47], none, 31, 5⟩, ⟨some 42, .mov, [.t 48], none, 63, 6⟩, ⟨some 49, .ext 0, [.t 42], none, 127, 7⟩, ⟨some 50, .ext 1, [.t 42], none, 127, 8⟩, ⟨none, .store 4, [.t 4, .t 49], none, 255, 9⟩, ⟨some 9, .mov, [.t 50], none, 1023, 10⟩]) (.seq (.seq (.reg 0 none [m 51 (.t 9) 0, o 52 (.bin .neq) [.t 51, .c (ci 0)] 1]) (.cond (.t 52) (.seq (.reg 0 none [o 53 (.load true 7) [.t 1] 0, ⟨none, .store 7, [.t 2, .t 53], none, 0, 1⟩, m 3 (.c (ci 8)) 2]) .ret) .skip)) (.seq (.reg 0 none [o 54 (.load true 7) [.t 1] 0, o 55 (.load true 4) [.t 4] 1, o 56 (.call 134) [.t 54, .c (ci 0), .t 55] 2, ⟨none, .store 7, [.t 2, .t 56], none, 0, 3⟩, m 3 (.c (ci 0)) 4]) .ret)))))
def c70_1 : C := (.seq (.reg 2 none [o 1 (.box 0) [.t 0] 0, o 2 (.alloc 1 z14) [] 1, m 3 (.c (ci 0)) 2]) (.seq (.reg 1 none [o 10 (.fld 2) [.t 1] 0, o 11 (.load false 1) [.t 10] 1, o 12 (.ix 4) [.t 11, .c (ci 0)] 2, o 13 (.load true 4) [.t 12] 3, o 4 (.alloc 0 z0) [] 4, ⟨none, .store 4, [.t 4, .t 13], none, 0, 5⟩]) (.seq (.reg 1 none [o 15 (.load true 4) [.t 4] 0, o 16 (.call 16) [.t 15, .c (ci 1)] 1, m 14 (.t 16) 2, o 17 (.ext 0) [.t 14] 3, o 18 (.ext 1) [.t 14] 4, o 5 (.alloc 0 z1) [] 5, ⟨none, .store 8, [.t 5, .t 17], none, 0, 6⟩, m 6 (.t 18) 7]) (.seq (.reg 0 none [o 20 (.load true 8) [.t 5] 0, o 21 (.call 44) [.t 20, .c (.d (.str [46, 119, 104, 46, 46, 119, 104, 46, 120, 105, 110, 111]))] 1, m 19 (.t 21) 2, o 22 (.ext 0) [.t 19] 3, o 23 (.ext 1) [.t 19] 4, m 7 (.t 22) 5, m 8 (.t 23) 6]) (.seq (.reg 0 none [m 9 (.c (ci 0)) 0]) (.seq (.seq (.reg 0 none [m 24 (.t 8) 0, o 25 (.un .not) [.t 24] 1]) (.cond (.t 25) (.reg 0 none [o 27 (.load true 4) [.t 4] 0, o 28 (.build z1 [(1, 1)]) [.c (ci 1)] 1, o 29 (.call 150) [.t 27, .c (ci 1), .c (.d (.str [46, 119, 104, 46, 46, 119, 104, 46, 120, 105, 110, 111])), .t 28] 2, m 26 (.t 29) 3, o 30 (.ext 0) [.t 26] 4, o 31 (.ext 1) [.t 26] 5, o 32 (.ext 2) [.t 26] 6, ⟨none, .store 4, [.t 4, .t 30], none, 0, 7⟩, m 7 (.t 31) 8, m 9 (.t 32) 9]) .skip)) (.jn 288230376151712406 c70_2)))))))
def c70 : Fn := { fid := 70, np := 1, ntmps := 57, body := (.jn 144115188075855873 c70_1), res := [.cell 2 true 7, .tmp 3] }
def d70_1 (c : Cx) (t0 : V) (H : List Blk) : X := stepK c.pc c.ic c.n (.jn 144115188075855873 c70_1) (cn 0 57 [(0, t0)]) H (kTop c70.res)
def d70_2 (c : Cx) (t1 t2 t4 t7 t9 : V) (H : List Blk) : X := stepK c.pc c.ic c.n (.jn 288230376151712406 c70_2) (cn 0 57 [(1, t1), (2, t2), (4, t4), (7, t7), (9, t9)]) H (kTop c70.res)
def b70_2 (c : Cx) (t1 t2 t4 t7 t9 : V) (H : List Blk) : X := p (aBin .neq t9 (ci 0)) fun x1 => condK x1 ((aLoad true 7 t1).go H fun x2 H => (aStore 7 t2 x2).go H fun _ H => bnd (loadV true 7 t2 H) fun x3 => some (.tup [x3, (ci 8)], H)) ((fun (t1 t2 t4 t7 : V) (H : L) (c : Cx) => (aLoad true 4 t4).go H fun x4 H => (fun (t1 t2 t4 t7 x4 : V) (H : L) (c : Cx) => p (aCall c.pc 148 [x4, t7, (ci 0)]) fun x5 => p (aExt 0 x5) fun x6 => p (aExt 1 x5) fun x7 => (aStore 4 t4 x6).go H fun _ H => (aLoad true 4 t4).go H fun x8 H => p (aFld 3 t1) fun x9 => (aLoad true 4 x9).go H fun x10 H => p (aCall c.pc 151 [x10]) fun x11 => (fun (t1 t2 t4 t7 x8 x11 : V) (H : L) (c : Cx) => p (aCall c.pc 147 [x8, t7, (ci 0), x11]) fun x12 => p (aExt 0 x12) fun x13 => p (aExt 1 x12) fun x14 => (aStore 4 t4 x13).go H fun _ H => p (aBin .neq x14 (ci 0)) fun x15 => condK x15 ((aLoad true 7 t1).go H fun x16 H => (aStore 7 t2 x16).go H fun _ H => bnd (loadV true 7 t2 H) fun x17 => some (.tup [x17, (ci 8)], H)) ((fun (t1 t2 t4 : V) (H : L) (c : Cx) => (aLoad true 7 t1).go H fun x18 H => (aLoad true 4 t4).go H fun x19 H => p (aCall c.pc 134 [x18, (ci 0), x19]) fun x20 => (aStore 7 t2 x20).go H fun _ H => bnd (loadV true 7 t2 H) fun x21 => some (.tup [x21, (ci 0)], H)) t1 t2 t4 H c)) t1 t2 t4 t7 x8 x11 H c) t1 t2 t4 t7 x4 H c) t1 t2 t4 t7 H c)
def j70_2 (c : Cx) : F5 := b70_2 c
theorem o70_2 (c : Cx) : d70_2 c = j70_2 c := by
  unfold j70_2
  funext t1 t2 t4 t7 t9 H
  refine Eq.trans (stepK_jn c.pc c.ic c.n _ H _ 288230376151712406 c70_2) ?_
  kernel_rfl
def b70_1 (c : Cx) (j2 : F5) (t0 : V) (H : List Blk) : X := newK 2 H fun q H => (aBox (q + 0) t0).go H fun x1 H => (aAlloc (q + 1) z14).go H fun x2 H => newK 1 H fun q H => p (aFld 2 x1) fun x3 => (aLoad false 1 x3).go H fun x4 H => (fun (x1 x2 x4 : V) (q : Nat) (H : L) (c : Cx) (j2 : F5) => p (aIx 4 x4 (ci 0)) fun x5 => (aLoad true 4 x5).go H fun x6 H => (aAlloc (q + 0) z0).go H fun x7 H => (aStore 4 x7 x6).go H fun _ H => newK 1 H fun q H => (aLoad true 4 x7).go H fun x8 H => p (aCall c.pc 16 [x8, (ci 1)]) fun x9 => (fun (x1 x2 x7 x9 : V) (q : Nat) (H : L) (c : Cx) (j2 : F5) => p (aExt 0 x9) fun x10 => p (aExt 1 x9) fun x11 => (aAlloc (q + 0) z1).go H fun x12 H => (aStore 8 x12 x10).go H fun _ H => (aLoad true 8 x12).go H fun x13 H => p (aCall c.pc 44 [x13, (.d (.str [46, 119, 104, 46, 46, 119, 104, 46, 120, 105, 110, 111]))]) fun x14 => p (aExt 0 x14) fun x15 => p (aExt 1 x14) fun x16 => p (aUn .not x16) fun x17 => condK x17 ((fun (x1 x2 x7 : V) (H : L) (c : Cx) (j2 : F5) => (aLoad true 4 x7).go H fun x18 H => p (aBuild z1 [(1, 1)] [(ci 1)]) fun x19 => p (aCall c.pc 150 [x18, (ci 1), (.d (.str [46, 119, 104, 46, 46, 119, 104, 46, 120, 105, 110, 111])), x19]) fun x20 => p (aExt 0 x20) fun x21 => p (aExt 1 x20) fun x22 => p (aExt 2 x20) fun x23 => (aStore 4 x7 x21).go H fun _ H => j2 x1 x2 x7 x22 x23 H) x1 x2 x7 H c j2) (j2 x1 x2 x7 x15 (ci 0) H)) x1 x2 x7 x9 q H c j2) x1 x2 x4 q H c j2
def j70_1 (c : Cx) : F1 := b70_1 c (j70_2 c)
theorem o70_1 (c : Cx) : d70_1 c = j70_1 c := by
  unfold j70_1; rw [← o70_2]
  funext t0 H
  refine Eq.trans (stepK_jn c.pc c.ic c.n _ H _ 144115188075855873 c70_1) ?_
  kernel_rfl
def b70_0 (c : Cx) (j1 : F1) (t0 : V) (H : List Blk) : X := j1 t0 H
def s70 (c : Cx) (args : List V) (H : List Blk) : X := argsK 1 args (b70_0 c (j70_1 c) (getT args 0) H)
theorem e70 (pc ic n args H) : runK pc ic n c70 args H = s70 ⟨pc, ic, n⟩ args H := by
  unfold s70; rw [← o70_1]
  kernel_rfl
def L70 : Leaf := ⟨c70, fun pc ic n => s70 ⟨pc, ic, n⟩, e70⟩
theorem kk70 : chkFn Go.Proofs.Tryz.prog ET 70 c70 = true := by kernel_rfl

def c71_2 : C := (.seq (.seq (.reg 0 none [m 17 (.t 5) 0, m 18 (.t 1) 1, o 19 (.len 1) [.t 18] 2, o 20 (.bin .lss) [.t 17, .t 19] 3]) (.cond (.t 20) .skip (.exit 0))) (.seq (.blk 1 (.seq (.reg 0 none [m 23 (.t 1) 0, m 24 (.t 5) 1, o 25 (.ix 4) [.t 23, .t 24] 2, o 26 (.fld 0) [.t 25] 3, o 27 (.load false 1) [.t 26] 4, o 28 (.bin .gtr) [.t 27, .c (ci 4000)] 5, m 29 (.t 28) 6, ⟨some 30, .mov, [.t 1], some (29, false), 0, 7⟩, ⟨some 31, .mov, [.t 5], some (29, false), 0, 8⟩, ⟨some 32, .ix 4, [.t 30, .t 31], some (29, false), 0, 9⟩, ⟨some 33, .fld 1, [.t 32], some (29, false), 0, 10⟩, ⟨some 34, .load false 1, [.t 33], some (29, false), 0, 11⟩, ⟨some 35, .bin .gtr, [.t 34, .c (ci 200)], some (29, false), 0, 12⟩, o 36 .pick [.t 29, .c ct, .t 35] 13, m 37 (.t 36) 14, ⟨some 38, .mov, [.t 1], some (37, false), 0, 15⟩, ⟨some 39, .mov, [.t 5], some (37, false), 0, 16⟩, ⟨some 40, .ix 4, [.t 38, .t 39], some (37, false), 0, 17⟩, ⟨some 41, .fld 2, [.t 40], some (37, false), 0, 18⟩, ⟨some 42, .load false 1, [.t 41], some (37, false), 0, 19⟩, ⟨some 43, .bin .gtr, [.t 42, .c (ci 1073741824)], some (37, false), 0, 20⟩, o 44 .pick [.t 37, .c ct, .t 43] 21, m 45 (.t 44) 22, ⟨some 46, .mov, [.t 1], some (45, false), 0, 23⟩, ⟨some 47, .mov, [.t 5], some (45, false), 0, 24⟩, ⟨some 48, .ix 4, [.t 46, .t 47], some (45, false), 0, 25⟩, ⟨some 49, .load true 4, [.t 48], some (45, false), 0, 26⟩, ⟨some 50, .call 153, [.t 49], some (45, false), 0, 27⟩, ⟨some 51, .un .not, [.t 50], some (45, false), 0, 28⟩, o 52 .pick [.t 45, .c ct, .t 51] 29, m 53 (.t 52) 30, ⟨some 54, .mov, [.t 1], some (53, false), 0, 31⟩, ⟨some 55, .mov, [.t 5], some (53, false), 0, 32⟩, ⟨some 56, .ix 4, [.t 54, .t 55], some (53, false), 0, 33⟩, ⟨some 57, .load true 4, [.t 56], some (53, false), 0, 34⟩, ⟨some 58, .call 154, [.t 57, .c cf], some (53, false), 0, 35⟩, ⟨some 59, .un .not, [.t 58], some (53, false), 0, 36⟩, o 60 .pick [.t 53, .c ct, .t 59] 37]) (.cond (.t 60) (.seq (.reg 0 none [m 4 (.c cf) 0]) .ret) .skip))) (.reg 0 none [m 21 (.t 5) 0, o 22 (.bin .add) [.t 21, .c (ci 1)] 1, m 5 (.t 22) 2])))
def c71_s1 : C := (.seq (.reg 0 none [m 4 (.c ct) 0]) .ret)
def c71_1 : C := (.seq (.reg 1 none [o 2 (.box 0) [.t 0] 0, m 4 (.c cf) 1]) (.seq (.seq (.reg 0 none [o 6 (.load true 2) [.t 2] 0, o 7 (.call 152) [.t 6] 1, o 8 (.un .not) [.t 7] 2, m 9 (.t 8) 3, ⟨some 10, .mov, [.t 1], some (9, false), 0, 4⟩, ⟨some 11, .len 1, [.t 10], some (9, false), 0, 5⟩, ⟨some 12, .fld 0, [.t 2], some (9, false), 0, 6⟩, ⟨some 13, .load false 1, [.t 12], some (9, false), 0, 7⟩, ⟨some 14, .len 1, [.t 13], some (9, false), 0, 8⟩, ⟨some 15, .bin .neq, [.t 11, .t 14], some (9, false), 0, 9⟩, o 16 .pick [.t 9, .c ct, .t 15] 10]) (.cond (.t 16) (.seq (.reg 0 none [m 4 (.c cf) 0]) .ret) .skip)) (.seq (.seq (.reg 0 none [m 5 (.c (ci 0)) 0]) (.blk 0 (.loop 4611686018427387938 false c71_2))) c71_s1)))
def c71 : Fn := { fid := 71, np := 2, ntmps := 61, body := (.jn 2305843009213693955 c71_1), res := [.tmp 4] }
def d71_1 (c : Cx) (t0 t1 : V) (H : List Blk) : X := stepK c.pc c.ic c.n (.jn 2305843009213693955 c71_1) (cn 0 61 [(0, t0), (1, t1)]) H (kTop c71.res)
def k71_1 (c : Cx) : KT := thenK (stepK c.pc c.ic c.n c71_s1) (kTop c71.res)
def k71_2 (c : Cx) : KT := blkK 0 (k71_1 c)
def d71_2 (c : Cx) (m n2 : Nat) (t1 t5 : V) (H : List Blk) : X := jnK (loopsK (stepK c.pc c.ic c.n c71_2) 4611686018427387938 false n2 m) (cn 0 61 [(1, t1), (5, t5)]) H (k71_2 c) 4611686018427387938
def b71_2 (c : Cx) (r2 : F2) (n2 : Nat) (t1 t5 : V) (H : List Blk) : X := (aLen 1 t1).go H fun x1 H => p (aBin .lss t5 x1) fun x2 => condK x2 ((fun (t1 t5 : V) (H : L) (c : Cx) (r2 : F2) => p (aIx 4 t1 t5) fun x3 => p (aFld 0 x3) fun x4 => (aLoad false 1 x4).go H fun x5 H => p (aBin .gtr x5 (ci 4000)) fun x6 => (fun (t1 t5 x6 : V) (H : L) (c : Cx) (r2 : F2) => guardK x6 false (fun k => (aMov t1).go H k) H fun x7 H => guardK x6 false (fun k => (aMov t5).go H k) H fun x8 H => guardK x6 false (fun k => (aIx 4 x7 x8).go H k) H fun x9 H => guardK x6 false (fun k => (aFld 1 x9).go H k) H fun x10 H => (fun (t1 t5 x6 x10 : V) (H : L) (c : Cx) (r2 : F2) => guardK x6 false (fun k => (aLoad false 1 x10).go H k) H fun x11 H => guardK x6 false (fun k => (aBin .gtr x11 (ci 200)).go H k) H fun x12 H => p (aPick x6 ct x12) fun x13 => guardK x13 false (fun k => (aMov t1).go H k) H fun x14 H => (fun (t1 t5 x13 x14 : V) (H : L) (c : Cx) (r2 : F2) => guardK x13 false (fun k => (aMov t5).go H k) H fun x15 H => guardK x13 false (fun k => (aIx 4 x14 x15).go H k) H fun x16 H => guardK x13 false (fun k => (aFld 2 x16).go H k) H fun x17 H => guardK x13 false (fun k => (aLoad false 1 x17).go H k) H fun x18 H => (fun (t1 t5 x13 x18 : V) (H : L) (c : Cx) (r2 : F2) => guardK x13 false (fun k => (aBin .gtr x18 (ci 1073741824)).go H k) H fun x19 H => p (aPick x13 ct x19) fun x20 => guardK x20 false (fun k => (aMov t1).go H k) H fun x21 H => guardK x20 false (fun k => (aMov t5).go H k) H fun x22 H => (fun (t1 t5 x20 x21 x22 : V) (H : L) (c : Cx) (r2 : F2) => guardK x20 false (fun k => (aIx 4 x21 x22).go H k) H fun x23 H => guardK x20 false (fun k => (aLoad true 4 x23).go H k) H fun x24 H => guardK x20 false (fun k => (aCall c.pc 153 [x24]).go H k) H fun x25 H => guardK x20 false (fun k => (aUn .not x25).go H k) H fun x26 H => (fun (t1 t5 x20 x26 : V) (H : L) (c : Cx) (r2 : F2) => p (aPick x20 ct x26) fun x27 => guardK x27 false (fun k => (aMov t1).go H k) H fun x28 H => guardK x27 false (fun k => (aMov t5).go H k) H fun x29 H => guardK x27 false (fun k => (aIx 4 x28 x29).go H k) H fun x30 H => (fun (t1 t5 x27 x30 : V) (H : L) (c : Cx) (r2 : F2) => guardK x27 false (fun k => (aLoad true 4 x30).go H k) H fun x31 H => guardK x27 false (fun k => (aCall c.pc 154 [x31, cf]).go H k) H fun x32 H => guardK x27 false (fun k => (aUn .not x32).go H k) H fun x33 H => p (aPick x27 ct x33) fun x34 => condK x34 (some (cf, H)) (p (aBin .add t5 (ci 1)) fun x35 => r2 t1 x35 H)) t1 t5 x27 x30 H c r2) t1 t5 x20 x26 H c r2) t1 t5 x20 x21 x22 H c r2) t1 t5 x13 x18 H c r2) t1 t5 x13 x14 H c r2) t1 t5 x6 x10 H c r2) t1 t5 x6 H c r2) t1 t5 H c r2) (some (ct, H))
def j71_2 (c : Cx) : Nat → Nat → F2 := recN (fun _ _ _ _ => none) fun ih n2 => b71_2 c (ih n2) n2
theorem o71_2 (c : Cx) : d71_2 c = j71_2 c := by
  unfold j71_2
  refine recN_ok (by kernel_rfl) fun m => funext fun n2 => ?_
  funext t1 t5 H
  refine Eq.trans (jnK_eq 4611686018427387938 _ _ H _) ?_
  kernel_rfl
def b71_1 (c : Cx) (j2 : Nat → Nat → F2) (t0 t1 : V) (H : List Blk) : X := newK 1 H fun q H => (aBox (q + 0) t0).go H fun x1 H => (aLoad true 2 x1).go H fun x2 H => p (aCall c.pc 152 [x2]) fun x3 => (fun (t1 x1 x3 : V) (H : L) (c : Cx) (j2 : Nat → Nat → F2) => p (aUn .not x3) fun x4 => guardK x4 false (fun k => (aMov t1).go H k) H fun x5 H => guardK x4 false (fun k => (aLen 1 x5).go H k) H fun x6 H => guardK x4 false (fun k => (aFld 0 x1).go H k) H fun x7 H => (fun (t1 x4 x6 x7 : V) (H : L) (c : Cx) (j2 : Nat → Nat → F2) => guardK x4 false (fun k => (aLoad false 1 x7).go H k) H fun x8 H => guardK x4 false (fun k => (aLen 1 x8).go H k) H fun x9 H => guardK x4 false (fun k => (aBin .neq x6 x9).go H k) H fun x10 H => p (aPick x4 ct x10) fun x11 => condK x11 (some (cf, H)) (j2 c.n H.length t1 (ci 0) H)) t1 x4 x6 x7 H c j2) t1 x1 x3 H c j2
def j71_1 (c : Cx) : F2 := b71_1 c (j71_2 c)
theorem o71_1 (c : Cx) : d71_1 c = j71_1 c := by
  unfold j71_1; rw [← o71_2]
  funext t0 t1 H
  refine Eq.trans (stepK_jn c.pc c.ic c.n _ H _ 2305843009213693955 c71_1) ?_
  kernel_rfl
def b71_0 (c : Cx) (j1 : F2) (t0 t1 : V) (H : List Blk) : X := j1 t0 t1 H
def s71 (c : Cx) (args : List V) (H : List Blk) : X := argsK 2 args (b71_0 c (j71_1 c) (getT args 0) (getT args 1) H)
theorem e71 (pc ic n args H) : runK pc ic n c71 args H = s71 ⟨pc, ic, n⟩ args H := by
  unfold s71; rw [← o71_1]
  kernel_rfl
def L71 : Leaf := ⟨c71, fun pc ic n => s71 ⟨pc, ic, n⟩, e71⟩
theorem kk71 : chkFn Go.Proofs.Tryz.prog ET 71 c71 = true := by kernel_rfl

def c72_2 : C := (.seq (.seq (.reg 0 none [m 5 (.t 4) 0, o 6 (.fld 3) [.t 1] 1, o 7 (.load false 1) [.t 6] 2, o 8 (.len 1) [.t 7] 3, o 9 (.bin .lss) [.t 5, .t 8] 4]) (.cond (.t 9) .skip (.exit 0))) (.seq (.blk 1 (.reg 1 none [m 12 (.t 3) 0, o 13 (.fld 3) [.t 1] 1, o 14 (.load false 1) [.t 13] 2, m 15 (.t 4) 3, o 16 (.ix 8) [.t 14, .t 15] 4, o 17 (.load true 8) [.t 16] 5, o 18 (.call 49) [.t 17] 6, o 19 (.bsl 8 z3 1 [0]) [.t 18] 7, o 20 (.app 0 8 104) [.t 12, .t 19] 8, m 3 (.t 20) 9])) (.reg 0 none [m 10 (.t 4) 0, o 11 (.bin .add) [.t 10, .c (ci 1)] 1, m 4 (.t 11) 2])))
def c72_s1 : C := (.seq (.reg 0 none [m 21 (.t 3) 0, o 22 (.fld 3) [.t 1] 1, ⟨none, .store 1, [.t 22, .t 21], none, 0, 2⟩]) (.seq (.reg 0 none [o 23 (.load true 4) [.t 1] 0, ⟨none, .store 4, [.t 2, .t 23], none, 0, 1⟩]) .ret))
def c72_1 : C := (.seq (.reg 2 none [o 1 (.box 0) [.t 0] 0, o 2 (.alloc 1 z0) [] 1]) (.seq (.reg 0 none [m 3 (.c .nilS) 0]) (.seq (.seq (.reg 0 none [m 4 (.c (ci 0)) 0]) (.blk 0 (.loop 33554462 false c72_2))) c72_s1)))
def c72 : Fn := { fid := 72, np := 1, ntmps := 24, body := (.jn 16777217 c72_1), res := [.cell 2 true 4] }
def d72_1 (c : Cx) (t0 : V) (H : List Blk) : X := stepK c.pc c.ic c.n (.jn 16777217 c72_1) (cn 0 24 [(0, t0)]) H (kTop c72.res)
def k72_1 (c : Cx) : KT := thenK (stepK c.pc c.ic c.n c72_s1) (kTop c72.res)
def k72_2 (c : Cx) : KT := blkK 0 (k72_1 c)
def d72_2 (c : Cx) (m n2 : Nat) (t1 t2 t3 t4 : V) (H : List Blk) : X := jnK (loopsK (stepK c.pc c.ic c.n c72_2) 33554462 false n2 m) (cn 0 24 [(1, t1), (2, t2), (3, t3), (4, t4)]) H (k72_2 c) 33554462
def b72_2 (c : Cx) (r2 : F4) (n2 : Nat) (t1 t2 t3 t4 : V) (H : List Blk) : X := p (aFld 3 t1) fun x1 => (aLoad false 1 x1).go H fun x2 H => (aLen 1 x2).go H fun x3 H => p (aBin .lss t4 x3) fun x4 => condK x4 ((fun (t1 t2 t3 t4 : V) (H : L) (c : Cx) (r2 : F4) => newK 1 H fun q H => p (aFld 3 t1) fun x5 => (aLoad false 1 x5).go H fun x6 H => p (aIx 8 x6 t4) fun x7 => (fun (t1 t2 t3 t4 x7 : V) (q : Nat) (H : L) (c : Cx) (r2 : F4) => (aLoad true 8 x7).go H fun x8 H => p (aCall c.pc 49 [x8]) fun x9 => p (aBsl 8 z3 1 [0] [x9]) fun x10 => (aApp (q + 0) 8 104 t3 x10).go H fun x11 H => p (aBin .add t4 (ci 1)) fun x12 => r2 t1 t2 x11 x12 H) t1 t2 t3 t4 x7 q H c r2) t1 t2 t3 t4 H c r2) ((fun (t1 t2 t3 : V) (H : L) => p (aFld 3 t1) fun x13 => (aStore 1 x13 t3).go H fun _ H => (aLoad true 4 t1).go H fun x14 H => (aStore 4 t2 x14).go H fun _ H => bnd (loadV true 4 t2 H) fun x15 => some (x15, H)) t1 t2 t3 H)
def j72_2 (c : Cx) : Nat → Nat → F4 := recN (fun _ _ _ _ _ _ => none) fun ih n2 => b72_2 c (ih n2) n2
theorem o72_2 (c : Cx) : d72_2 c = j72_2 c := by
  unfold j72_2
  refine recN_ok (by kernel_rfl) fun m => funext fun n2 => ?_
  funext t1 t2 t3 t4 H
  refine Eq.trans (jnK_eq 33554462 _ _ H _) ?_
  kernel_rfl
def b72_1 (c : Cx) (j2 : Nat → Nat → F4) (t0 : V) (H : List Blk) : X := newK 2 H fun q H => (aBox (q + 0) t0).go H fun x1 H => (aAlloc (q + 1) z0).go H fun x2 H => j2 c.n H.length x1 x2 .nilS (ci 0) H
def j72_1 (c : Cx) : F1 := b72_1 c (j72_2 c)
theorem o72_1 (c : Cx) : d72_1 c = j72_1 c := by
  unfold j72_1; rw [← o72_2]
  funext t0 H
  refine Eq.trans (stepK_jn c.pc c.ic c.n _ H _ 16777217 c72_1) ?_
  kernel_rfl
def b72_0 (c : Cx) (j1 : F1) (t0 : V) (H : List Blk) : X := j1 t0 H
def s72 (c : Cx) (args : List V) (H : List Blk) : X := argsK 1 args (b72_0 c (j72_1 c) (getT args 0) H)
theorem e72 (pc ic n args H) : runK pc ic n c72 args H = s72 ⟨pc, ic, n⟩ args H := by
  unfold s72; rw [← o72_1]
  kernel_rfl
def L72 : Leaf := ⟨c72, fun pc ic n => s72 ⟨pc, ic, n⟩, e72⟩
theorem kk72 : chkFn Go.Proofs.Tryz.prog ET 72 c72 = true := by kernel_rfl

def c73_1 : C := (.seq (.reg 2 none [o 1 (.box 0) [.t 0] 0, o 2 (.alloc 1 z10) [] 1, m 3 (.c (ci 0)) 2]) (.seq (.reg 1 none [o 11 (.load true 4) [.t 1] 0, o 12 (.call 16) [.t 11, .c (ci 1)] 1, m 10 (.t 12) 2, o 13 (.ext 0) [.t 10] 3, o 14 (.ext 1) [.t 10] 4, o 4 (.alloc 0 z1) [] 5, ⟨none, .store 8, [.t 4, .t 13], none, 0, 6⟩, m 5 (.t 14) 7]) (.seq (.reg 0 none [o 16 (.load true 8) [.t 4] 0, o 17 (.call 44) [.t 16, .c (.d (.str [46, 119, 104, 46, 46, 119, 104, 46, 120, 105, 110, 111]))] 1, m 15 (.t 17) 2, o 18 (.ext 0) [.t 15] 3, o 19 (.ext 1) [.t 15] 4, m 6 (.t 18) 5, m 7 (.t 19) 6]) (.seq (.seq (.reg 0 none [m 20 (.t 7) 0, o 21 (.un .not) [.t 20] 1]) (.cond (.t 21) (.seq (.reg 0 none [o 22 (.build z10 []) [] 0, ⟨none, .store 4, [.t 2, .t 22], none, 0, 1⟩, m 3 (.c (ci 2)) 2]) .ret) .skip)) (.seq (.reg 0 none [o 24 (.load true 4) [.t 1] 0, m 25 (.t 6) 1, o 26 (.call 155) [.t 24, .t 25, .c (ci 0), .c (ci 32768)] 2, m 23 (.t 26) 3, o 27 (.ext 0) [.t 23] 4, o 28 (.ext 1) [.t 23] 5, m 8 (.t 27) 6, m 9 (.t 28) 7]) (.seq (.seq (.reg 0 none [m 29 (.t 9) 0, o 30 (.bin .neq) [.t 29, .c (ci 0)] 1]) (.cond (.t 30) (.seq (.reg 0 none [o 31 (.build z10 []) [] 0, ⟨none, .store 4, [.t 2, .t 31], none, 0, 1⟩, m 3 (.c (ci 11)) 2]) .ret) .skip)) (.seq (.reg 0 none [m 32 (.t 8) 0, o 33 (.call 156) [.t 32] 1, o 34 (.ext 0) [.t 33] 2, o 35 (.ext 1) [.t 33] 3, ⟨none, .store 4, [.t 2, .t 34], none, 0, 4⟩, m 3 (.t 35) 5]) .ret)))))))
def c73 : Fn := { fid := 73, np := 1, ntmps := 36, body := (.jn 68719476737 c73_1), res := [.cell 2 true 4, .tmp 3] }
def d73_1 (c : Cx) (t0 : V) (H : List Blk) : X := stepK c.pc c.ic c.n (.jn 68719476737 c73_1) (cn 0 36 [(0, t0)]) H (kTop c73.res)
def b73_1 (c : Cx) (t0 : V) (H : List Blk) : X := newK 2 H fun q H => (aBox (q + 0) t0).go H fun x1 H => (aAlloc (q + 1) z10).go H fun x2 H => newK 1 H fun q H => (aLoad true 4 x1).go H fun x3 H => p (aCall c.pc 16 [x3, (ci 1)]) fun x4 => (fun (x1 x2 x4 : V) (q : Nat) (H : L) (c : Cx) => p (aExt 0 x4) fun x5 => p (aExt 1 x4) fun x6 => (aAlloc (q + 0) z1).go H fun x7 H => (aStore 8 x7 x5).go H fun _ H => (aLoad true 8 x7).go H fun x8 H => p (aCall c.pc 44 [x8, (.d (.str [46, 119, 104, 46, 46, 119, 104, 46, 120, 105, 110, 111]))]) fun x9 => p (aExt 0 x9) fun x10 => p (aExt 1 x9) fun x11 => p (aUn .not x11) fun x12 => condK x12 (p (aBuild z10 [] []) fun x13 => (aStore 4 x2 x13).go H fun _ H => bnd (loadV true 4 x2 H) fun x14 => some (.tup [x14, (ci 2)], H)) ((fun (x1 x2 x10 : V) (H : L) (c : Cx) => (aLoad true 4 x1).go H fun x15 H => p (aCall c.pc 155 [x15, x10, (ci 0), (ci 32768)]) fun x16 => p (aExt 0 x16) fun x17 => p (aExt 1 x16) fun x18 => p (aBin .neq x18 (ci 0)) fun x19 => condK x19 (p (aBuild z10 [] []) fun x20 => (aStore 4 x2 x20).go H fun _ H => bnd (loadV true 4 x2 H) fun x21 => some (.tup [x21, (ci 11)], H)) ((fun (x2 x17 : V) (H : L) (c : Cx) => p (aCall c.pc 156 [x17]) fun x22 => p (aExt 0 x22) fun x23 => p (aExt 1 x22) fun x24 => (aStore 4 x2 x23).go H fun _ H => bnd (loadV true 4 x2 H) fun x25 => some (.tup [x25, x24], H)) x2 x17 H c)) x1 x2 x10 H c)) x1 x2 x4 q H c
def j73_1 (c : Cx) : F1 := b73_1 c
theorem o73_1 (c : Cx) : d73_1 c = j73_1 c := by
  unfold j73_1
  funext t0 H
  refine Eq.trans (stepK_jn c.pc c.ic c.n _ H _ 68719476737 c73_1) ?_
  kernel_rfl
def b73_0 (c : Cx) (j1 : F1) (t0 : V) (H : List Blk) : X := j1 t0 H
def s73 (c : Cx) (args : List V) (H : List Blk) : X := argsK 1 args (b73_0 c (j73_1 c) (getT args 0) H)
theorem e73 (pc ic n args H) : runK pc ic n c73 args H = s73 ⟨pc, ic, n⟩ args H := by
  unfold s73; rw [← o73_1]
  kernel_rfl
def L73 : Leaf := ⟨c73, fun pc ic n => s73 ⟨pc, ic, n⟩, e73⟩
theorem kk73 : chkFn Go.Proofs.Tryz.prog ET 73 c73 = true := by kernel_rfl

def c74_2 : C := (.seq (.seq (.reg 0 none [m 7 (.t 4) 0, o 8 (.fld 2) [.t 1] 1, o 9 (.load false 1) [.t 8] 2, o 10 (.len 1) [.t 9] 3, o 11 (.bin .lss) [.t 7, .t 10] 4]) (.cond (.t 11) .skip (.exit 0))) (.seq (.blk 1 (.seq (.reg 0 none [o 14 (.fld 0) [.t 1] 0, o 15 (.load true 2) [.t 14] 1, m 16 (.t 4) 2, o 17 (.call 57) [.t 15, .t 16] 3, m 18 (.t 17) 4, ⟨some 19, .fld 2, [.t 1], some (18, true), 0, 5⟩, ⟨some 20, .load false 1, [.t 19], some (18, true), 0, 6⟩, ⟨some 21, .mov, [.t 4], some (18, true), 0, 7⟩, ⟨some 22, .ix 4, [.t 20, .t 21], some (18, true), 0, 8⟩, ⟨some 23, .load true 4, [.t 22], some (18, true), 0, 9⟩, ⟨some 24, .call 154, [.t 23, .c ct], some (18, true), 0, 10⟩, ⟨some 25, .un .not, [.t 24], some (18, true), 0, 11⟩, o 26 .pick [.t 18, .t 25, .c cf] 12]) (.cond (.t 26) (.seq (.reg 0 none [o 27 (.build z14 []) [] 0, ⟨none, .store 7, [.t 2, .t 27], none, 0, 1⟩, m 3 (.c (ci 1)) 2]) .ret) .skip))) (.reg 0 none [m 12 (.t 4) 0, o 13 (.bin .add) [.t 12, .c (ci 1)] 1, m 4 (.t 13) 2])))
def c74_s1 : C := (.seq (.reg 0 none [o 28 (.load true 7) [.t 1] 0, o 29 (.call 157) [.t 28] 1, o 30 (.fld 3) [.t 1] 2, ⟨none, .store 4, [.t 30, .t 29], none, 0, 3⟩]) (.seq (.reg 1 none [o 32 (.load true 7) [.t 1] 0, o 33 (.call 70) [.t 32] 1, m 31 (.t 33) 2, o 34 (.ext 0) [.t 31] 3, o 35 (.ext 1) [.t 31] 4, o 5 (.alloc 0 z14) [] 5, ⟨none, .store 7, [.t 5, .t 34], none, 0, 6⟩, m 6 (.t 35) 7]) (.seq (.seq (.reg 0 none [m 36 (.t 6) 0, o 37 (.bin .neq) [.t 36, .c (ci 0)] 1]) (.cond (.t 37) (.seq (.reg 0 none [o 38 (.build z14 []) [] 0, m 39 (.t 6) 1, ⟨none, .store 7, [.t 2, .t 38], none, 0, 2⟩, m 3 (.t 39) 3]) .ret) .skip)) (.seq (.reg 0 none [o 40 (.load true 7) [.t 5] 0, ⟨none, .store 7, [.t 2, .t 40], none, 0, 1⟩, m 3 (.c (ci 0)) 2]) .ret))))
def c74_1 : C := (.seq (.reg 2 none [o 1 (.box 0) [.t 0] 0, o 2 (.alloc 1 z14) [] 1, m 3 (.c (ci 0)) 2]) (.seq (.seq (.reg 0 none [m 4 (.c (ci 0)) 0]) (.blk 0 (.loop 4398046511126 false c74_2))) c74_s1))
def c74 : Fn := { fid := 74, np := 1, ntmps := 41, body := (.jn 2199023255553 c74_1), res := [.cell 2 true 7, .tmp 3] }
def d74_1 (c : Cx) (t0 : V) (H : List Blk) : X := stepK c.pc c.ic c.n (.jn 2199023255553 c74_1) (cn 0 41 [(0, t0)]) H (kTop c74.res)
def k74_1 (c : Cx) : KT := thenK (stepK c.pc c.ic c.n c74_s1) (kTop c74.res)
def k74_2 (c : Cx) : KT := blkK 0 (k74_1 c)
def d74_2 (c : Cx) (m n2 : Nat) (t1 t2 t4 : V) (H : List Blk) : X := jnK (loopsK (stepK c.pc c.ic c.n c74_2) 4398046511126 false n2 m) (cn 0 41 [(1, t1), (2, t2), (4, t4)]) H (k74_2 c) 4398046511126
def b74_2 (c : Cx) (r2 : F3) (n2 : Nat) (t1 t2 t4 : V) (H : List Blk) : X := p (aFld 2 t1) fun x1 => (aLoad false 1 x1).go H fun x2 H => (aLen 1 x2).go H fun x3 H => p (aBin .lss t4 x3) fun x4 => condK x4 ((fun (t1 t2 t4 : V) (H : L) (c : Cx) (r2 : F3) => p (aFld 0 t1) fun x5 => (aLoad true 2 x5).go H fun x6 H => p (aCall c.pc 57 [x6, t4]) fun x7 => (fun (t1 t2 t4 x7 : V) (H : L) (c : Cx) (r2 : F3) => guardK x7 true (fun k => (aFld 2 t1).go H k) H fun x8 H => guardK x7 true (fun k => (aLoad false 1 x8).go H k) H fun x9 H => guardK x7 true (fun k => (aMov t4).go H k) H fun x10 H => guardK x7 true (fun k => (aIx 4 x9 x10).go H k) H fun x11 H => (fun (t1 t2 t4 x7 x11 : V) (H : L) (c : Cx) (r2 : F3) => guardK x7 true (fun k => (aLoad true 4 x11).go H k) H fun x12 H => guardK x7 true (fun k => (aCall c.pc 154 [x12, ct]).go H k) H fun x13 H => guardK x7 true (fun k => (aUn .not x13).go H k) H fun x14 H => p (aPick x7 x14 cf) fun x15 => condK x15 (p (aBuild z14 [] []) fun x16 => (aStore 7 t2 x16).go H fun _ H => bnd (loadV true 7 t2 H) fun x17 => some (.tup [x17, (ci 1)], H)) (p (aBin .add t4 (ci 1)) fun x18 => r2 t1 t2 x18 H)) t1 t2 t4 x7 x11 H c r2) t1 t2 t4 x7 H c r2) t1 t2 t4 H c r2) ((fun (t1 t2 : V) (H : L) (c : Cx) => (aLoad true 7 t1).go H fun x19 H => p (aCall c.pc 157 [x19]) fun x20 => p (aFld 3 t1) fun x21 => (aStore 4 x21 x20).go H fun _ H => newK 1 H fun q H => (aLoad true 7 t1).go H fun x22 H => p (aCall c.pc 70 [x22]) fun x23 => (fun (t2 x23 : V) (q : Nat) (H : L) => p (aExt 0 x23) fun x24 => p (aExt 1 x23) fun x25 => (aAlloc (q + 0) z14).go H fun x26 H => (aStore 7 x26 x24).go H fun _ H => p (aBin .neq x25 (ci 0)) fun x27 => condK x27 (p (aBuild z14 [] []) fun x28 => (aStore 7 t2 x28).go H fun _ H => bnd (loadV true 7 t2 H) fun x29 => some (.tup [x29, x25], H)) ((aLoad true 7 x26).go H fun x30 H => (aStore 7 t2 x30).go H fun _ H => bnd (loadV true 7 t2 H) fun x31 => some (.tup [x31, (ci 0)], H))) t2 x23 q H) t1 t2 H c)
def j74_2 (c : Cx) : Nat → Nat → F3 := recN (fun _ _ _ _ _ => none) fun ih n2 => b74_2 c (ih n2) n2
theorem o74_2 (c : Cx) : d74_2 c = j74_2 c := by
  unfold j74_2
  refine recN_ok (by kernel_rfl) fun m => funext fun n2 => ?_
  funext t1 t2 t4 H
  refine Eq.trans (jnK_eq 4398046511126 _ _ H _) ?_
  kernel_rfl
def b74_1 (c : Cx) (j2 : Nat → Nat → F3) (t0 : V) (H : List Blk) : X := newK 2 H fun q H => (aBox (q + 0) t0).go H fun x1 H => (aAlloc (q + 1) z14).go H fun x2 H => j2 c.n H.length x1 x2 (ci 0) H
def j74_1 (c : Cx) : F1 := b74_1 c (j74_2 c)
theorem o74_1 (c : Cx) : d74_1 c = j74_1 c := by
  unfold j74_1; rw [← o74_2]
  funext t0 H
  refine Eq.trans (stepK_jn c.pc c.ic c.n _ H _ 2199023255553 c74_1) ?_
  kernel_rfl
def b74_0 (c : Cx) (j1 : F1) (t0 : V) (H : List Blk) : X := j1 t0 H
def s74 (c : Cx) (args : List V) (H : List Blk) : X := argsK 1 args (b74_0 c (j74_1 c) (getT args 0) H)
theorem e74 (pc ic n args H) : runK pc ic n c74 args H = s74 ⟨pc, ic, n⟩ args H := by
  unfold s74; rw [← o74_1]
  kernel_rfl
def L74 : Leaf := ⟨c74, fun pc ic n => s74 ⟨pc, ic, n⟩, e74⟩
theorem kk74 : chkFn Go.Proofs.Tryz.prog ET 74 c74 = true := by kernel_rfl

def c76_2 : C := (.seq (.reg 0 none [o 9 (.bin .lss) [.t 8, .t 7] 0]) (.seq (.cond (.t 9) .skip (.exit 0)) (.seq (.blk 1 (.seq (.reg 0 none [m 10 (.t 8) 0, m 4 (.t 10) 1]) (.reg 1 none [m 11 (.t 3) 0, m 12 (.t 4) 1, o 13 (.build [(ci 0), (ci 0)] [(0, 1), (1, 1)]) [.t 12, .c (ci 1)] 2, o 14 (.bsl 2 z13 1 [0]) [.t 13] 3, o 15 (.app 0 2 16) [.t 11, .t 14] 4, m 3 (.t 15) 5]))) (.reg 0 none [o 16 (.bin .add) [.t 8, .c (ci 1)] 0, m 8 (.t 16) 1]))))
def c76_s1 : C := (.seq (.reg 0 none [m 17 (.t 3) 0, m 2 (.t 17) 1]) .ret)
def c76_1 : C := (.seq (.reg 1 none [o 1 (.box 0) [.t 0] 0, m 2 (.c .nilS) 1]) (.seq (.reg 0 none [m 3 (.c .nilS) 0]) (.seq (.seq (.reg 0 none [o 5 (.fld 2) [.t 1] 0, o 6 (.load false 1) [.t 5] 1, o 7 (.len 1) [.t 6] 2, m 8 (.c (ci 0)) 3]) (.blk 0 (.loop 524680 false c76_2))) c76_s1)))
def c76 : Fn := { fid := 76, np := 1, ntmps := 18, body := (.jn 262145 c76_1), res := [.tmp 2] }
def d76_1 (c : Cx) (t0 : V) (H : List Blk) : X := stepK c.pc c.ic c.n (.jn 262145 c76_1) (cn 0 18 [(0, t0)]) H (kTop c76.res)
def k76_1 (c : Cx) : KT := thenK (stepK c.pc c.ic c.n c76_s1) (kTop c76.res)
def k76_2 (c : Cx) : KT := blkK 0 (k76_1 c)
def d76_2 (c : Cx) (m n2 : Nat) (t3 t7 t8 : V) (H : List Blk) : X := jnK (loopsK (stepK c.pc c.ic c.n c76_2) 524680 false n2 m) (cn 0 18 [(3, t3), (7, t7), (8, t8)]) H (k76_2 c) 524680
def b76_2 (c : Cx) (r2 : F3) (n2 : Nat) (t3 t7 t8 : V) (H : List Blk) : X := p (aBin .lss t8 t7) fun x1 => condK x1 ((fun (t3 t7 t8 : V) (H : L) (r2 : F3) => newK 1 H fun q H => p (aBuild [(ci 0), (ci 0)] [(0, 1), (1, 1)] [t8, (ci 1)]) fun x2 => p (aBsl 2 z13 1 [0] [x2]) fun x3 => (aApp (q + 0) 2 16 t3 x3).go H fun x4 H => p (aBin .add t8 (ci 1)) fun x5 => r2 x4 t7 x5 H) t3 t7 t8 H r2) (some (t3, H))
def j76_2 (c : Cx) : Nat → Nat → F3 := recN (fun _ _ _ _ _ => none) fun ih n2 => b76_2 c (ih n2) n2
theorem o76_2 (c : Cx) : d76_2 c = j76_2 c := by
  unfold j76_2
  refine recN_ok (by kernel_rfl) fun m => funext fun n2 => ?_
  funext t3 t7 t8 H
  refine Eq.trans (jnK_eq 524680 _ _ H _) ?_
  kernel_rfl
def b76_1 (c : Cx) (j2 : Nat → Nat → F3) (t0 : V) (H : List Blk) : X := newK 1 H fun q H => (aBox (q + 0) t0).go H fun x1 H => p (aFld 2 x1) fun x2 => (aLoad false 1 x2).go H fun x3 H => (aLen 1 x3).go H fun x4 H => j2 c.n H.length .nilS x4 (ci 0) H
def j76_1 (c : Cx) : F1 := b76_1 c (j76_2 c)
theorem o76_1 (c : Cx) : d76_1 c = j76_1 c := by
  unfold j76_1; rw [← o76_2]
  funext t0 H
  refine Eq.trans (stepK_jn c.pc c.ic c.n _ H _ 262145 c76_1) ?_
  kernel_rfl
def b76_0 (c : Cx) (j1 : F1) (t0 : V) (H : List Blk) : X := j1 t0 H
def s76 (c : Cx) (args : List V) (H : List Blk) : X := argsK 1 args (b76_0 c (j76_1 c) (getT args 0) H)
theorem e76 (pc ic n args H) : runK pc ic n c76 args H = s76 ⟨pc, ic, n⟩ args H := by
  unfold s76; rw [← o76_1]
  kernel_rfl
def L76 : Leaf := ⟨c76, fun pc ic n => s76 ⟨pc, ic, n⟩, e76⟩
theorem kk76 : chkFn Go.Proofs.Tryz.prog ET 76 c76 = true := by kernel_rfl

def c77 : Fn := { fid := 77, np := 2, ntmps := 10, body := (.seq (.reg 2 none [o 2 (.box 0) [.t 0] 0, o 3 (.box 1) [.t 1] 1, m 4 (.c cf) 2]) (.seq (.reg 0 none [o 5 (.load true 7) [.t 2] 0, o 6 (.load true 2) [.t 3] 1, o 7 (.call 37) [.t 5, .t 6] 2, o 8 (.fldv 1 1 false) [.t 7] 3, o 9 (.bin .eql) [.t 8, .c (ci 2)] 4, m 4 (.t 9) 5]) .ret)), res := [.tmp 4] }
def b77_0 (c : Cx) (t0 t1 : V) (H : List Blk) : X := newK 2 H fun q H => (aBox (q + 0) t0).go H fun x1 H => (aBox (q + 1) t1).go H fun x2 H => (aLoad true 7 x1).go H fun x3 H => (aLoad true 2 x2).go H fun x4 H => p (aCall c.pc 37 [x3, x4]) fun x5 => p (aFldv 1 1 false x5) fun x6 => p (aBin .eql x6 (ci 2)) fun x7 => some (x7, H)
def s77 (c : Cx) (args : List V) (H : List Blk) : X := argsK 2 args (b77_0 c (getT args 0) (getT args 1) H)
theorem e77 (pc ic n args H) : runK pc ic n c77 args H = s77 ⟨pc, ic, n⟩ args H := by
  unfold s77
  kernel_rfl
def L77 : Leaf := ⟨c77, fun pc ic n => s77 ⟨pc, ic, n⟩, e77⟩
theorem kk77 : chkFn Go.Proofs.Tryz.prog ET 77 c77 = true := by kernel_rfl

def c78 : Fn := { fid := 78, np := 3, ntmps := 17, body := (.seq (.reg 1 none [o 3 (.box 0) [.t 0] 0, m 6 (.c (ci 0)) 1]) (.seq (.reg 0 none [o 10 (.load true 7) [.t 3] 0, m 11 (.t 1) 1, m 12 (.t 2) 2, o 13 (.call 162) [.t 10, .t 11, .t 12] 3, m 9 (.t 13) 4, o 14 (.ext 0) [.t 9] 5, o 15 (.ext 1) [.t 9] 6, m 7 (.t 14) 7, m 8 (.t 15) 8]) (.seq (.reg 0 none [m 16 (.t 8) 0, m 6 (.t 16) 1]) .ret))), res := [.tmp 6] }
def b78_0 (c : Cx) (t0 t1 t2 : V) (H : List Blk) : X := newK 1 H fun q H => (aBox (q + 0) t0).go H fun x1 H => (aLoad true 7 x1).go H fun x2 H => p (aCall c.pc 162 [x2, t1, t2]) fun x3 => p (aExt 0 x3) fun x4 => p (aExt 1 x3) fun x5 => some (x5, H)
def s78 (c : Cx) (args : List V) (H : List Blk) : X := argsK 3 args (b78_0 c (getT args 0) (getT args 1) (getT args 2) H)
theorem e78 (pc ic n args H) : runK pc ic n c78 args H = s78 ⟨pc, ic, n⟩ args H := by
  unfold s78
  kernel_rfl
def L78 : Leaf := ⟨c78, fun pc ic n => s78 ⟨pc, ic, n⟩, e78⟩
theorem kk78 : chkFn Go.Proofs.Tryz.prog ET 78 c78 = true := by kernel_rfl

def c79 : Fn := { fid := 79, np := 3, ntmps := 17, body := (.seq (.reg 1 none [o 3 (.box 0) [.t 0] 0, m 6 (.c .nilS) 1]) (.seq (.reg 0 none [o 10 (.load true 7) [.t 3] 0, m 11 (.t 1) 1, m 12 (.t 2) 2, o 13 (.call 162) [.t 10, .t 11, .t 12] 3, m 9 (.t 13) 4, o 14 (.ext 0) [.t 9] 5, o 15 (.ext 1) [.t 9] 6, m 7 (.t 14) 7, m 8 (.t 15) 8]) (.seq (.reg 0 none [m 16 (.t 7) 0, m 6 (.t 16) 1]) .ret))), res := [.tmp 6] }
def b79_0 (c : Cx) (t0 t1 t2 : V) (H : List Blk) : X := newK 1 H fun q H => (aBox (q + 0) t0).go H fun x1 H => (aLoad true 7 x1).go H fun x2 H => p (aCall c.pc 162 [x2, t1, t2]) fun x3 => p (aExt 0 x3) fun x4 => p (aExt 1 x3) fun x5 => some (x4, H)
def s79 (c : Cx) (args : List V) (H : List Blk) : X := argsK 3 args (b79_0 c (getT args 0) (getT args 1) (getT args 2) H)
theorem e79 (pc ic n args H) : runK pc ic n c79 args H = s79 ⟨pc, ic, n⟩ args H := by
  unfold s79
  kernel_rfl
def L79 : Leaf := ⟨c79, fun pc ic n => s79 ⟨pc, ic, n⟩, e79⟩
theorem kk79 : chkFn Go.Proofs.Tryz.prog ET 79 c79 = true := by kernel_rfl

def c80_2 : C := (.seq (.seq (.reg 0 none [m 15 (.t 9) 0, m 16 (.t 10) 1, o 17 (.bin .lss) [.t 15, .t 16] 2]) (.cond (.t 17) .skip (.exit 0))) (.blk 1 (.seq (.reg 0 none [m 18 (.t 9) 0, m 19 (.t 10) 1, o 20 (.bin .add) [.t 18, .t 19] 2, o 21 (.toInt .u64) [.t 20] 3, o 22 (.bin .shr) [.t 21, .c (.d (.int .u64 1))] 4, o 23 (.toInt .i64) [.t 22] 5, m 11 (.t 23) 6]) (.seq (.reg 0 (some ⟨true, [], 49⟩) [m 24 (.t 2) 0, m 25 (.t 0) 1, m 26 (.t 11) 2, ⟨some 27, .ix 3, [.t 25, .t 26], none, 6, 3⟩, ⟨some 28, .load true 3, [.t 27], none, 14, 4⟩, o 29 (.load true 2) [.t 4] 5, ⟨some 30, .dcall, [.t 24, .t 28, .t 29], none, 63, 6⟩, ⟨some 31, .bin .lss, [.t 30, .c (ci 0)], none, 127, 7⟩]) (.cond (.t 31) (.reg 0 none [m 32 (.t 11) 0, o 33 (.bin .add) [.t 32, .c (ci 1)] 1, m 9 (.t 33) 2]) (.reg 0 none [m 34 (.t 11) 0, m 10 (.t 34) 1]))))))
def c80_s1 : C := (.seq (.reg 0 (some ⟨true, [0, 1, 2, 3, 4, 5, 6, 7, 8, 9, 10, 11, 14, 12, 13, 15], 49⟩) [m 35 (.t 9) 0, m 36 (.t 9) 1, m 37 (.t 8) 2, ⟨some 38, .bin .lss, [.t 36, .t 37], none, 6, 3⟩, ⟨some 39, .mov, [.t 38], none, 14, 4⟩, ⟨some 40, .mov, [.t 2], some (39, true), 30, 5⟩, ⟨some 41, .mov, [.t 0], some (39, true), 30, 6⟩, ⟨some 42, .mov, [.t 9], some (39, true), 30, 7⟩, ⟨some 43, .ix 3, [.t 41, .t 42], some (39, true), 222, 8⟩, ⟨some 44, .load true 3, [.t 43], some (39, true), 478, 9⟩, ⟨some 45, .load true 2, [.t 4], some (39, true), 30, 10⟩, ⟨some 46, .dcall, [.t 40, .t 44, .t 45], some (39, true), 2046, 11⟩, ⟨some 47, .bin .eql, [.t 46, .c (ci 0)], some (39, true), 4094, 12⟩, ⟨some 48, .pick, [.t 39, .t 47, .c cf], none, 8190, 13⟩, ⟨some 6, .mov, [.t 35], none, 4095, 14⟩, ⟨some 7, .mov, [.t 48], none, 32767, 15⟩]) .ret)
def c80_1 : C := (.seq (.reg 1 none [o 4 (.box 0) [.t 1] 0, m 6 (.c (ci 0)) 1, m 7 (.c cf) 2]) (.seq (.reg 0 none [m 12 (.t 0) 0, o 13 (.len 1) [.t 12] 1, m 8 (.t 13) 2]) (.seq (.reg 0 none [m 14 (.t 8) 0, m 9 (.c (ci 0)) 1, m 10 (.t 14) 2]) (.seq (.blk 0 (.loop 1125899906844437 true c80_2)) c80_s1))))
def c80 : Fn := { fid := 80, np := 3, ntmps := 49, body := (.jn 562949953421319 c80_1), res := [.tmp 6, .tmp 7] }
def d80_1 (c : Cx) (t0 t1 t2 : V) (H : List Blk) : X := stepK c.pc c.ic c.n (.jn 562949953421319 c80_1) (cn 0 49 [(0, t0), (1, t1), (2, t2)]) H (kTop c80.res)
def k80_1 (c : Cx) : KT := thenK (stepK c.pc c.ic c.n c80_s1) (kTop c80.res)
def k80_2 (c : Cx) : KT := blkK 0 (k80_1 c)
def d80_2 (c : Cx) (m n2 : Nat) (t0 t2 t4 t8 t9 t10 : V) (H : List Blk) : X := jnK (loopsK (stepK c.pc c.ic c.n c80_2) 1125899906844437 true n2 m) (cn 0 49 [(0, t0), (2, t2), (4, t4), (8, t8), (9, t9), (10, t10)]) H (k80_2 c) 1125899906844437
def b80_2 (c : Cx) (r2 : F6) (n2 : Nat) (t0 t2 t4 t8 t9 t10 : V) (H : List Blk) : X := bnd (trimF true n2 [t0, t2, t4, t8, t9, t10] H) fun H => p (aBin .lss t9 t10) fun x1 => condK x1 ((fun (t0 t2 t4 t8 t9 t10 : V) (H : L) (c : Cx) (r2 : F6) => p (aBin .add t9 t10) fun x2 => p (aToInt .u64 x2) fun x3 => p (aBin .shr x3 (.d (.int .u64 1))) fun x4 => p (aToInt .i64 x4) fun x5 => p (aIx 3 t0 x5) fun x6 => (fun (t0 t2 t4 t8 t9 t10 x5 x6 : V) (H : L) (c : Cx) (r2 : F6) => (aLoad true 3 x6).go H fun x7 H => (aLoad true 2 t4).go H fun x8 H => callK c.ic [t2, x7, x8] H fun x9 H => p (aBin .lss x9 (ci 0)) fun x10 => condK x10 (p (aBin .add x5 (ci 1)) fun x11 => r2 t0 t2 t4 t8 x11 t10 H) (r2 t0 t2 t4 t8 t9 x5 H)) t0 t2 t4 t8 t9 t10 x5 x6 H c r2) t0 t2 t4 t8 t9 t10 H c r2) ((fun (t0 t2 t4 t8 t9 : V) (H : L) (c : Cx) => p (aBin .lss t9 t8) fun x12 => guardK x12 true (fun k => (aMov t2).go H k) H fun x13 H => (fun (t0 t4 t9 x12 x13 : V) (H : L) (c : Cx) => guardK x12 true (fun k => (aMov t0).go H k) H fun x14 H => guardK x12 true (fun k => (aMov t9).go H k) H fun x15 H => guardK x12 true (fun k => (aIx 3 x14 x15).go H k) H fun x16 H => guardK x12 true (fun k => (aLoad true 3 x16).go H k) H fun x17 H => (fun (t4 t9 x12 x13 x17 : V) (H : L) (c : Cx) => guardK x12 true (fun k => (aLoad true 2 t4).go H k) H fun x18 H => guardK x12 true (callK c.ic [x13, x17, x18] H) H fun x19 H => guardK x12 true (fun k => (aBin .eql x19 (ci 0)).go H k) H fun x20 H => p (aPick x12 x20 cf) fun x21 => some (.tup [t9, x21], H)) t4 t9 x12 x13 x17 H c) t0 t4 t9 x12 x13 H c) t0 t2 t4 t8 t9 H c)
def j80_2 (c : Cx) : Nat → Nat → F6 := recN (fun _ _ _ _ _ _ _ _ => none) fun ih n2 => b80_2 c (ih n2) n2
theorem o80_2 (c : Cx) : d80_2 c = j80_2 c := by
  unfold j80_2
  refine recN_ok (by kernel_rfl) fun m => funext fun n2 => ?_
  funext t0 t2 t4 t8 t9 t10 H
  refine Eq.trans (jnK_eq 1125899906844437 _ _ H _) ?_
  kernel_rfl
def b80_1 (c : Cx) (j2 : Nat → Nat → F6) (t0 t1 t2 : V) (H : List Blk) : X := newK 1 H fun q H => (aBox (q + 0) t1).go H fun x1 H => (aLen 1 t0).go H fun x2 H => j2 c.n H.length t0 t2 x1 x2 (ci 0) x2 H
def j80_1 (c : Cx) : F3 := b80_1 c (j80_2 c)
theorem o80_1 (c : Cx) : d80_1 c = j80_1 c := by
  unfold j80_1; rw [← o80_2]
  funext t0 t1 t2 H
  refine Eq.trans (stepK_jn c.pc c.ic c.n _ H _ 562949953421319 c80_1) ?_
  kernel_rfl
def b80_0 (c : Cx) (j1 : F3) (t0 t1 t2 : V) (H : List Blk) : X := j1 t0 t1 t2 H
def s80 (c : Cx) (args : List V) (H : List Blk) : X := argsK 3 args (b80_0 c (j80_1 c) (getT args 0) (getT args 1) (getT args 2) H)
theorem e80 (pc ic n args H) : runK pc ic n c80 args H = s80 ⟨pc, ic, n⟩ args H := by
  unfold s80; rw [← o80_1]
  kernel_rfl
def L80 : Leaf := ⟨c80, fun pc ic n => s80 ⟨pc, ic, n⟩, e80⟩
theorem kk80 : chkFn Go.Proofs.Tryz.prog ET 80 c80 = true := by kernel_rfl

def c81_1 : C := (.seq (.reg 2 none [o 2 (.box 0) [.t 0] 0, o 3 (.box 1) [.t 1] 1, m 4 (.c (ci 0)) 2]) (.seq (.reg 0 (some ⟨true, [], 19⟩) [o 5 (.fld 0) [.t 2] 0, ⟨some 6, .fld 0, [.t 5], none, 1, 1⟩, ⟨some 7, .load false 1, [.t 6], none, 3, 2⟩, o 8 (.fld 0) [.t 3] 3, ⟨some 9, .load false 1, [.t 8], none, 8, 4⟩, ⟨some 10, .call 164, [.t 7, .t 9], none, 31, 5⟩, o 11 (.fld 0) [.t 2] 6, ⟨some 12, .fld 1, [.t 11], none, 64, 7⟩, ⟨some 13, .load false 1, [.t 12], none, 192, 8⟩, o 14 (.fld 1) [.t 3] 9, ⟨some 15, .load false 1, [.t 14], none, 512, 10⟩, ⟨some 16, .call 165, [.t 13, .t 15], none, 2047, 11⟩, ⟨some 17, .bsl 1 [(.int .i64 0)] 2 [0, 1], [.t 10, .t 16], none, 4095, 12⟩, ⟨some 18, .call 163, [.t 17], none, 8191, 13⟩, ⟨some 4, .mov, [.t 18], none, 16383, 14⟩]) .ret))
def c81 : Fn := { fid := 81, np := 2, ntmps := 19, body := (.jn 524291 c81_1), res := [.tmp 4] }
def d81_1 (c : Cx) (t0 t1 : V) (H : List Blk) : X := stepK c.pc c.ic c.n (.jn 524291 c81_1) (cn 0 19 [(0, t0), (1, t1)]) H (kTop c81.res)
def b81_1 (c : Cx) (t0 t1 : V) (H : List Blk) : X := newK 2 H fun q H => (aBox (q + 0) t0).go H fun x1 H => (aBox (q + 1) t1).go H fun x2 H => p (aFld 0 x1) fun x3 => p (aFld 0 x3) fun x4 => (fun (x1 x2 x4 : V) (H : L) (c : Cx) => (aLoad false 1 x4).go H fun x5 H => p (aFld 0 x2) fun x6 => (aLoad false 1 x6).go H fun x7 H => p (aCall c.pc 164 [x5, x7]) fun x8 => (fun (x1 x2 x8 : V) (H : L) (c : Cx) => p (aFld 0 x1) fun x9 => p (aFld 1 x9) fun x10 => (aLoad false 1 x10).go H fun x11 H => p (aFld 1 x2) fun x12 => (fun (x8 x11 x12 : V) (H : L) (c : Cx) => (aLoad false 1 x12).go H fun x13 H => p (aCall c.pc 165 [x11, x13]) fun x14 => p (aBsl 1 [(.int .i64 0)] 2 [0, 1] [x8, x14]) fun x15 => p (aCall c.pc 163 [x15]) fun x16 => some (x16, H)) x8 x11 x12 H c) x1 x2 x8 H c) x1 x2 x4 H c
def j81_1 (c : Cx) : F2 := b81_1 c
theorem o81_1 (c : Cx) : d81_1 c = j81_1 c := by
  unfold j81_1
  funext t0 t1 H
  refine Eq.trans (stepK_jn c.pc c.ic c.n _ H _ 524291 c81_1) ?_
  kernel_rfl
def b81_0 (c : Cx) (j1 : F2) (t0 t1 : V) (H : List Blk) : X := j1 t0 t1 H
def s81 (c : Cx) (args : List V) (H : List Blk) : X := argsK 2 args (b81_0 c (j81_1 c) (getT args 0) (getT args 1) H)
theorem e81 (pc ic n args H) : runK pc ic n c81 args H = s81 ⟨pc, ic, n⟩ args H := by
  unfold s81; rw [← o81_1]
  kernel_rfl
def L81 : Leaf := ⟨c81, fun pc ic n => s81 ⟨pc, ic, n⟩, e81⟩
theorem kk81 : chkFn Go.Proofs.Tryz.prog ET 81 c81 = true := by kernel_rfl

def c82_1 : C := (.seq (.reg 1 none [o 3 (.box 0) [.t 0] 0, m 6 (.c cf) 1]) (.seq (.reg 0 none [m 7 (.t 1) 0, o 8 (.bin .geq) [.t 7, .c (ci 0)] 1, m 9 (.t 8) 2, ⟨some 10, .mov, [.t 1], some (9, true), 0, 3⟩, ⟨some 11, .fld 0, [.t 3], some (9, true), 0, 4⟩, ⟨some 12, .load false 1, [.t 11], some (9, true), 0, 5⟩, ⟨some 13, .len 1, [.t 12], some (9, true), 0, 6⟩, ⟨some 14, .bin .lss, [.t 10, .t 13], some (9, true), 0, 7⟩, o 15 .pick [.t 9, .t 14, .c cf] 8, m 16 (.t 15) 9, ⟨some 17, .fld 0, [.t 3], some (16, true), 0, 10⟩, ⟨some 18, .load false 1, [.t 17], some (16, true), 0, 11⟩, ⟨some 19, .mov, [.t 1], some (16, true), 0, 12⟩, ⟨some 20, .ix 1, [.t 18, .t 19], some (16, true), 0, 13⟩, ⟨some 21, .load false 1, [.t 20], some (16, true), 0, 14⟩, ⟨some 22, .mov, [.t 2], some (16, true), 0, 15⟩, ⟨some 23, .bin .eql, [.t 21, .t 22], some (16, true), 0, 16⟩, o 24 .pick [.t 16, .t 23, .c cf] 17, m 6 (.t 24) 18]) .ret))
def c82 : Fn := { fid := 82, np := 3, ntmps := 25, body := (.jn 33554439 c82_1), res := [.tmp 6] }
def d82_1 (c : Cx) (t0 t1 t2 : V) (H : List Blk) : X := stepK c.pc c.ic c.n (.jn 33554439 c82_1) (cn 0 25 [(0, t0), (1, t1), (2, t2)]) H (kTop c82.res)
def b82_1 (c : Cx) (t0 t1 t2 : V) (H : List Blk) : X := newK 1 H fun q H => (aBox (q + 0) t0).go H fun x1 H => p (aBin .geq t1 (ci 0)) fun x2 => guardK x2 true (fun k => (aMov t1).go H k) H fun x3 H => guardK x2 true (fun k => (aFld 0 x1).go H k) H fun x4 H => (fun (t1 t2 x1 x2 x3 x4 : V) (H : L) => guardK x2 true (fun k => (aLoad false 1 x4).go H k) H fun x5 H => guardK x2 true (fun k => (aLen 1 x5).go H k) H fun x6 H => guardK x2 true (fun k => (aBin .lss x3 x6).go H k) H fun x7 H => p (aPick x2 x7 cf) fun x8 => (fun (t1 t2 x1 x8 : V) (H : L) => guardK x8 true (fun k => (aFld 0 x1).go H k) H fun x9 H => guardK x8 true (fun k => (aLoad false 1 x9).go H k) H fun x10 H => guardK x8 true (fun k => (aMov t1).go H k) H fun x11 H => guardK x8 true (fun k => (aIx 1 x10 x11).go H k) H fun x12 H => (fun (t2 x8 x12 : V) (H : L) => guardK x8 true (fun k => (aLoad false 1 x12).go H k) H fun x13 H => guardK x8 true (fun k => (aMov t2).go H k) H fun x14 H => guardK x8 true (fun k => (aBin .eql x13 x14).go H k) H fun x15 H => p (aPick x8 x15 cf) fun x16 => some (x16, H)) t2 x8 x12 H) t1 t2 x1 x8 H) t1 t2 x1 x2 x3 x4 H
def j82_1 (c : Cx) : F3 := b82_1 c
theorem o82_1 (c : Cx) : d82_1 c = j82_1 c := by
  unfold j82_1
  funext t0 t1 t2 H
  refine Eq.trans (stepK_jn c.pc c.ic c.n _ H _ 33554439 c82_1) ?_
  kernel_rfl
def b82_0 (c : Cx) (j1 : F3) (t0 t1 t2 : V) (H : List Blk) : X := j1 t0 t1 t2 H
def s82 (c : Cx) (args : List V) (H : List Blk) : X := argsK 3 args (b82_0 c (j82_1 c) (getT args 0) (getT args 1) (getT args 2) H)
theorem e82 (pc ic n args H) : runK pc ic n c82 args H = s82 ⟨pc, ic, n⟩ args H := by
  unfold s82; rw [← o82_1]
  kernel_rfl
def L82 : Leaf := ⟨c82, fun pc ic n => s82 ⟨pc, ic, n⟩, e82⟩
theorem kk82 : chkFn Go.Proofs.Tryz.prog ET 82 c82 = true := by kernel_rfl

def c83_2 : C := (.seq (.seq (.reg 0 none [m 15 (.t 9) 0, m 16 (.t 10) 1, o 17 (.bin .lss) [.t 15, .t 16] 2]) (.cond (.t 17) .skip (.exit 0))) (.blk 1 (.seq (.reg 0 none [m 18 (.t 9) 0, m 19 (.t 10) 1, o 20 (.bin .add) [.t 18, .t 19] 2, o 21 (.toInt .u64) [.t 20] 3, o 22 (.bin .shr) [.t 21, .c (.d (.int .u64 1))] 4, o 23 (.toInt .i64) [.t 22] 5, m 11 (.t 23) 6]) (.seq (.reg 0 none [m 24 (.t 2) 0, m 25 (.t 0) 1, m 26 (.t 11) 2, o 27 (.ix 3) [.t 25, .t 26] 3, o 28 (.load true 3) [.t 27] 4, m 29 (.t 1) 5, o 30 .dcall [.t 24, .t 28, .t 29] 6, o 31 (.bin .lss) [.t 30, .c (ci 0)] 7]) (.cond (.t 31) (.reg 0 none [m 32 (.t 11) 0, o 33 (.bin .add) [.t 32, .c (ci 1)] 1, m 9 (.t 33) 2]) (.reg 0 none [m 34 (.t 11) 0, m 10 (.t 34) 1]))))))
def c83_s1 : C := (.seq (.reg 0 none [m 35 (.t 9) 0, m 36 (.t 9) 1, m 37 (.t 8) 2, o 38 (.bin .lss) [.t 36, .t 37] 3, m 39 (.t 38) 4, ⟨some 40, .mov, [.t 2], some (39, true), 0, 5⟩, ⟨some 41, .mov, [.t 0], some (39, true), 0, 6⟩, ⟨some 42, .mov, [.t 9], some (39, true), 0, 7⟩, ⟨some 43, .ix 3, [.t 41, .t 42], some (39, true), 0, 8⟩, ⟨some 44, .load true 3, [.t 43], some (39, true), 0, 9⟩, ⟨some 45, .mov, [.t 1], some (39, true), 0, 10⟩, ⟨some 46, .dcall, [.t 40, .t 44, .t 45], some (39, true), 0, 11⟩, ⟨some 47, .bin .eql, [.t 46, .c (ci 0)], some (39, true), 0, 12⟩, o 48 .pick [.t 39, .t 47, .c cf] 13, m 6 (.t 35) 14, m 7 (.t 48) 15]) .ret)
def c83_1 : C := (.seq (.reg 0 none [m 6 (.c (ci 0)) 0, m 7 (.c cf) 1]) (.seq (.reg 0 none [m 12 (.t 0) 0, o 13 (.len 1) [.t 12] 1, m 8 (.t 13) 2]) (.seq (.reg 0 none [m 14 (.t 8) 0, m 9 (.c (ci 0)) 1, m 10 (.t 14) 2]) (.seq (.blk 0 (.loop 1125899906844423 true c83_2)) c83_s1))))
def c83 : Fn := { fid := 83, np := 3, ntmps := 49, body := (.jn 562949953421319 c83_1), res := [.tmp 6, .tmp 7] }
def d83_1 (c : Cx) (t0 t1 t2 : V) (H : List Blk) : X := stepK c.pc c.ic c.n (.jn 562949953421319 c83_1) (cn 0 49 [(0, t0), (1, t1), (2, t2)]) H (kTop c83.res)
def k83_1 (c : Cx) : KT := thenK (stepK c.pc c.ic c.n c83_s1) (kTop c83.res)
def k83_2 (c : Cx) : KT := blkK 0 (k83_1 c)
def d83_2 (c : Cx) (m n2 : Nat) (t0 t1 t2 t8 t9 t10 : V) (H : List Blk) : X := jnK (loopsK (stepK c.pc c.ic c.n c83_2) 1125899906844423 true n2 m) (cn 0 49 [(0, t0), (1, t1), (2, t2), (8, t8), (9, t9), (10, t10)]) H (k83_2 c) 1125899906844423
def b83_2 (c : Cx) (r2 : F6) (n2 : Nat) (t0 t1 t2 t8 t9 t10 : V) (H : List Blk) : X := bnd (trimF true n2 [t0, t1, t2, t8, t9, t10] H) fun H => p (aBin .lss t9 t10) fun x1 => condK x1 ((fun (t0 t1 t2 t8 t9 t10 : V) (H : L) (c : Cx) (r2 : F6) => p (aBin .add t9 t10) fun x2 => p (aToInt .u64 x2) fun x3 => p (aBin .shr x3 (.d (.int .u64 1))) fun x4 => p (aToInt .i64 x4) fun x5 => p (aIx 3 t0 x5) fun x6 => (aLoad true 3 x6).go H fun x7 H => callK c.ic [t2, x7, t1] H fun x8 H => p (aBin .lss x8 (ci 0)) fun x9 => condK x9 (p (aBin .add x5 (ci 1)) fun x10 => r2 t0 t1 t2 t8 x10 t10 H) (r2 t0 t1 t2 t8 t9 x5 H)) t0 t1 t2 t8 t9 t10 H c r2) ((fun (t0 t1 t2 t8 t9 : V) (H : L) (c : Cx) => p (aBin .lss t9 t8) fun x11 => guardK x11 true (fun k => (aMov t2).go H k) H fun x12 H => (fun (t0 t1 t9 x11 x12 : V) (H : L) (c : Cx) => guardK x11 true (fun k => (aMov t0).go H k) H fun x13 H => guardK x11 true (fun k => (aMov t9).go H k) H fun x14 H => guardK x11 true (fun k => (aIx 3 x13 x14).go H k) H fun x15 H => guardK x11 true (fun k => (aLoad true 3 x15).go H k) H fun x16 H => (fun (t1 t9 x11 x12 x16 : V) (H : L) (c : Cx) => guardK x11 true (fun k => (aMov t1).go H k) H fun x17 H => guardK x11 true (callK c.ic [x12, x16, x17] H) H fun x18 H => guardK x11 true (fun k => (aBin .eql x18 (ci 0)).go H k) H fun x19 H => p (aPick x11 x19 cf) fun x20 => some (.tup [t9, x20], H)) t1 t9 x11 x12 x16 H c) t0 t1 t9 x11 x12 H c) t0 t1 t2 t8 t9 H c)
def j83_2 (c : Cx) : Nat → Nat → F6 := recN (fun _ _ _ _ _ _ _ _ => none) fun ih n2 => b83_2 c (ih n2) n2
theorem o83_2 (c : Cx) : d83_2 c = j83_2 c := by
  unfold j83_2
  refine recN_ok (by kernel_rfl) fun m => funext fun n2 => ?_
  funext t0 t1 t2 t8 t9 t10 H
  refine Eq.trans (jnK_eq 1125899906844423 _ _ H _) ?_
  kernel_rfl
def b83_1 (c : Cx) (j2 : Nat → Nat → F6) (t0 t1 t2 : V) (H : List Blk) : X := (aLen 1 t0).go H fun x1 H => j2 c.n H.length t0 t1 t2 x1 (ci 0) x1 H
def j83_1 (c : Cx) : F3 := b83_1 c (j83_2 c)
theorem o83_1 (c : Cx) : d83_1 c = j83_1 c := by
  unfold j83_1; rw [← o83_2]
  funext t0 t1 t2 H
  refine Eq.trans (stepK_jn c.pc c.ic c.n _ H _ 562949953421319 c83_1) ?_
  kernel_rfl
def b83_0 (c : Cx) (j1 : F3) (t0 t1 t2 : V) (H : List Blk) : X := j1 t0 t1 t2 H
def s83 (c : Cx) (args : List V) (H : List Blk) : X := argsK 3 args (b83_0 c (j83_1 c) (getT args 0) (getT args 1) (getT args 2) H)
theorem e83 (pc ic n args H) : runK pc ic n c83 args H = s83 ⟨pc, ic, n⟩ args H := by
  unfold s83; rw [← o83_1]
  kernel_rfl
def L83 : Leaf := ⟨c83, fun pc ic n => s83 ⟨pc, ic, n⟩, e83⟩
theorem kk83 : chkFn Go.Proofs.Tryz.prog ET 83 c83 = true := by kernel_rfl

def c84 : Fn := { fid := 84, np := 2, ntmps := 9, body := (.seq (.reg 1 none [o 2 (.box 0) [.t 0] 0, m 4 (.c (ci 0)) 1]) (.seq (.reg 0 none [o 5 (.fld 2) [.t 2] 0, o 6 (.load false 1) [.t 5] 1, m 7 (.t 1) 2, o 8 (.call 165) [.t 6, .t 7] 3, m 4 (.t 8) 4]) .ret)), res := [.tmp 4] }
def b84_0 (c : Cx) (t0 t1 : V) (H : List Blk) : X := newK 1 H fun q H => (aBox (q + 0) t0).go H fun x1 H => p (aFld 2 x1) fun x2 => (aLoad false 1 x2).go H fun x3 H => p (aCall c.pc 165 [x3, t1]) fun x4 => some (x4, H)
def s84 (c : Cx) (args : List V) (H : List Blk) : X := argsK 2 args (b84_0 c (getT args 0) (getT args 1) H)
theorem e84 (pc ic n args H) : runK pc ic n c84 args H = s84 ⟨pc, ic, n⟩ args H := by
  unfold s84
  kernel_rfl
def L84 : Leaf := ⟨c84, fun pc ic n => s84 ⟨pc, ic, n⟩, e84⟩
theorem kk84 : chkFn Go.Proofs.Tryz.prog ET 84 c84 = true := by kernel_rfl

def c85_1 : C := (.seq (.reg 2 none [o 2 (.box 0) [.t 0] 0, o 4 (.alloc 1 z1) [] 1, m 5 (.c cf) 2]) (.seq (.reg 0 none [o 9 (.load true 4) [.t 2] 0, m 10 (.t 1) 1, o 11 (.call 166) [.t 9, .t 10] 2, m 8 (.t 11) 3, o 12 (.ext 0) [.t 8] 4, o 13 (.ext 1) [.t 8] 5, m 6 (.t 12) 6, m 7 (.t 13) 7]) (.seq (.seq (.reg 0 none [m 14 (.t 7) 0, o 15 (.un .not) [.t 14] 1]) (.cond (.t 15) (.seq (.reg 0 none [o 16 (.build z1 []) [] 0, ⟨none, .store 8, [.t 4, .t 16], none, 0, 1⟩, m 5 (.c cf) 2]) .ret) .skip)) (.seq (.reg 0 none [o 17 (.fld 3) [.t 2] 0, o 18 (.load false 1) [.t 17] 1, m 19 (.t 6) 2, o 20 (.ix 8) [.t 18, .t 19] 3, o 21 (.load true 8) [.t 20] 4, o 22 (.call 167) [.t 21] 5, ⟨none, .store 8, [.t 4, .t 22], none, 0, 6⟩, m 5 (.c ct) 7]) .ret))))
def c85 : Fn := { fid := 85, np := 2, ntmps := 23, body := (.jn 8388611 c85_1), res := [.cell 4 true 8, .tmp 5] }
def d85_1 (c : Cx) (t0 t1 : V) (H : List Blk) : X := stepK c.pc c.ic c.n (.jn 8388611 c85_1) (cn 0 23 [(0, t0), (1, t1)]) H (kTop c85.res)
def b85_1 (c : Cx) (t0 t1 : V) (H : List Blk) : X := newK 2 H fun q H => (aBox (q + 0) t0).go H fun x1 H => (aAlloc (q + 1) z1).go H fun x2 H => (aLoad true 4 x1).go H fun x3 H => p (aCall c.pc 166 [x3, t1]) fun x4 => p (aExt 0 x4) fun x5 => p (aExt 1 x4) fun x6 => p (aUn .not x6) fun x7 => condK x7 (p (aBuild z1 [] []) fun x8 => (aStore 8 x2 x8).go H fun _ H => bnd (loadV true 8 x2 H) fun x9 => some (.tup [x9, cf], H)) ((fun (x1 x2 x5 : V) (H : L) (c : Cx) => p (aFld 3 x1) fun x10 => (aLoad false 1 x10).go H fun x11 H => (fun (x2 x5 x11 : V) (H : L) (c : Cx) => p (aIx 8 x11 x5) fun x12 => (aLoad true 8 x12).go H fun x13 H => p (aCall c.pc 167 [x13]) fun x14 => (aStore 8 x2 x14).go H fun _ H => bnd (loadV true 8 x2 H) fun x15 => some (.tup [x15, ct], H)) x2 x5 x11 H c) x1 x2 x5 H c)
def j85_1 (c : Cx) : F2 := b85_1 c
theorem o85_1 (c : Cx) : d85_1 c = j85_1 c := by
  unfold j85_1
  funext t0 t1 H
  refine Eq.trans (stepK_jn c.pc c.ic c.n _ H _ 8388611 c85_1) ?_
  kernel_rfl
def b85_0 (c : Cx) (j1 : F2) (t0 t1 : V) (H : List Blk) : X := j1 t0 t1 H
def s85 (c : Cx) (args : List V) (H : List Blk) : X := argsK 2 args (b85_0 c (j85_1 c) (getT args 0) (getT args 1) H)
theorem e85 (pc ic n args H) : runK pc ic n c85 args H = s85 ⟨pc, ic, n⟩ args H := by
  unfold s85; rw [← o85_1]
  kernel_rfl
def L85 : Leaf := ⟨c85, fun pc ic n => s85 ⟨pc, ic, n⟩, e85⟩
theorem kk85 : chkFn Go.Proofs.Tryz.prog ET 85 c85 = true := by kernel_rfl

def c86_2 : C := (.seq (.reg 0 none [o 14 (.bin .lss) [.t 13, .t 12] 0]) (.seq (.cond (.t 14) .skip (.exit 0)) (.seq (.blk 1 (.seq (.reg 0 none [o 15 (.ix 1) [.t 11, .t 13] 0, o 16 (.load false 1) [.t 15] 1, m 7 (.t 16) 2]) (.seq (.reg 0 none [o 17 (.load true 7) [.t 3] 0, m 18 (.t 1) 1, m 19 (.t 7) 2, o 20 (.call 79) [.t 17, .t 18, .t 19] 3, m 8 (.t 20) 4]) (.seq (.reg 0 none [m 21 (.t 2) 0, m 22 (.t 1) 1, o 23 (.ix 2) [.t 22, .c (ci 0)] 2, o 24 (.load true 2) [.t 23] 3, m 25 (.t 7) 4, m 26 (.t 8) 5, o 27 .dcall [.t 21, .t 24, .t 25, .t 26] 6]) (.seq (.reg 0 (some ⟨true, [], 38⟩) [o 28 (.load true 7) [.t 3] 0, m 29 (.t 8) 1, ⟨some 30, .ix 2, [.t 29, .c (ci 0)], none, 2, 2⟩, ⟨some 31, .load true 2, [.t 30], none, 6, 3⟩, ⟨some 32, .call 77, [.t 28, .t 31], none, 15, 4⟩]) (.cond (.t 32) (.reg 0 none [o 33 (.load true 7) [.t 3] 0, m 34 (.t 8) 1, m 35 (.t 2) 2, o 36 (.icall 86) [.t 33, .t 34, .t 35] 3]) .skip)))))) (.reg 0 none [o 37 (.bin .add) [.t 13, .c (ci 1)] 0, m 13 (.t 37) 1]))))
def c86_1 : C := (.seq (.reg 1 none [o 3 (.box 0) [.t 0] 0]) (.seq (.reg 0 none [o 9 (.load true 7) [.t 3] 0, m 10 (.t 1) 1, o 11 (.call 113) [.t 9, .t 10] 2, o 12 (.len 1) [.t 11] 3, m 13 (.c (ci 0)) 4]) (.blk 0 (.loop 549755828238 true c86_2))))
def c86 : Fn := { fid := 86, np := 3, ntmps := 38, body := (.jn 274877906951 c86_1), res := [] }
def d86_1 (c : Cx) (t0 t1 t2 : V) (H : List Blk) : X := stepK c.pc c.ic c.n (.jn 274877906951 c86_1) (cn 0 38 [(0, t0), (1, t1), (2, t2)]) H (kTop c86.res)
def k86_1 (c : Cx) : KT := blkK 0 (kTop c86.res)
def d86_2 (c : Cx) (m n2 : Nat) (t1 t2 t3 t11 t12 t13 : V) (H : List Blk) : X := jnK (loopsK (stepK c.pc c.ic c.n c86_2) 549755828238 true n2 m) (cn 0 38 [(1, t1), (2, t2), (3, t3), (11, t11), (12, t12), (13, t13)]) H (k86_1 c) 549755828238
def b86_2 (c : Cx) (r2 : F6) (n2 : Nat) (t1 t2 t3 t11 t12 t13 : V) (H : List Blk) : X := bnd (trimF true n2 [t1, t2, t3, t11, t12, t13] H) fun H => p (aBin .lss t13 t12) fun x1 => condK x1 ((fun (t1 t2 t3 t11 t12 t13 : V) (H : L) (c : Cx) (r2 : F6) => p (aIx 1 t11 t13) fun x2 => (aLoad false 1 x2).go H fun x3 H => (aLoad true 7 t3).go H fun x4 H => p (aCall c.pc 79 [x4, t1, x3]) fun x5 => p (aIx 2 t1 (ci 0)) fun x6 => (aLoad true 2 x6).go H fun x7 H => callK c.ic [t2, x7, x3, x5] H fun x8 H => (aLoad true 7 t3).go H fun x9 H => p (aIx 2 x5 (ci 0)) fun x10 => (aLoad true 2 x10).go H fun x11 H => p (aCall c.pc 77 [x9, x11]) fun x12 => condK x12 ((aLoad true 7 t3).go H fun x13 H => icK c 86 [x13, x5, t2] H fun x14 H => p (aBin .add t13 (ci 1)) fun x15 => r2 t1 t2 t3 t11 t12 x15 H) (p (aBin .add t13 (ci 1)) fun x16 => r2 t1 t2 t3 t11 t12 x16 H)) t1 t2 t3 t11 t12 t13 H c r2) (some (.tup [], H))
def j86_2 (c : Cx) : Nat → Nat → F6 := recN (fun _ _ _ _ _ _ _ _ => none) fun ih n2 => b86_2 c (ih n2) n2
theorem o86_2 (c : Cx) : d86_2 c = j86_2 c := by
  unfold j86_2
  refine recN_ok (by kernel_rfl) fun m => funext fun n2 => ?_
  funext t1 t2 t3 t11 t12 t13 H
  refine Eq.trans (jnK_eq 549755828238 _ _ H _) ?_
  kernel_rfl
def b86_1 (c : Cx) (j2 : Nat → Nat → F6) (t0 t1 t2 : V) (H : List Blk) : X := newK 1 H fun q H => (aBox (q + 0) t0).go H fun x1 H => (aLoad true 7 x1).go H fun x2 H => p (aCall c.pc 113 [x2, t1]) fun x3 => (aLen 1 x3).go H fun x4 H => j2 c.n H.length t1 t2 x1 x3 x4 (ci 0) H
def j86_1 (c : Cx) : F3 := b86_1 c (j86_2 c)
theorem o86_1 (c : Cx) : d86_1 c = j86_1 c := by
  unfold j86_1; rw [← o86_2]
  funext t0 t1 t2 H
  refine Eq.trans (stepK_jn c.pc c.ic c.n _ H _ 274877906951 c86_1) ?_
  kernel_rfl
def b86_0 (c : Cx) (j1 : F3) (t0 t1 t2 : V) (H : List Blk) : X := j1 t0 t1 t2 H
def s86 (c : Cx) (args : List V) (H : List Blk) : X := argsK 3 args (b86_0 c (j86_1 c) (getT args 0) (getT args 1) (getT args 2) H)
theorem e86 (pc ic n args H) : runK pc ic n c86 args H = s86 ⟨pc, ic, n⟩ args H := by
  unfold s86; rw [← o86_1]
  kernel_rfl
def L86 : Leaf := ⟨c86, fun pc ic n => s86 ⟨pc, ic, n⟩, e86⟩
theorem kk86 : chkFn Go.Proofs.Tryz.prog ET 86 c86 = true := by kernel_rfl

def c87_1 : C := (.seq (.reg 1 none [o 6 (.box 0) [.t 0] 0]) (.seq (.reg 0 (some ⟨true, [0, 1, 2, 3, 4, 5, 6, 7, 9, 8, 10], 25⟩) [o 12 (.fld 3) [.t 3] 0, ⟨some 13, .load true 4, [.t 12], none, 1, 1⟩, m 14 (.t 2) 2, ⟨some 15, .ix 2, [.t 14, .c (ci 0)], none, 4, 3⟩, ⟨some 16, .load true 2, [.t 15], none, 12, 4⟩, ⟨some 17, .call 34, [.t 13, .t 16], none, 31, 5⟩, ⟨some 11, .mov, [.t 17], none, 63, 6⟩, ⟨some 18, .ext 0, [.t 11], none, 127, 7⟩, ⟨some 19, .ext 1, [.t 11], none, 127, 8⟩, ⟨some 9, .mov, [.t 18], none, 255, 9⟩, ⟨some 10, .mov, [.t 19], none, 1023, 10⟩]) (.seq (.reg 0 none [m 20 (.t 9) 0, o 21 (.load false 1) [.t 4] 1, o 22 (.bin .eql) [.t 20, .t 21] 2]) (.cond (.t 22) (.reg 0 none [o 23 (.load false 1) [.t 5] 0, o 24 (.bin .add) [.t 23, .c (ci 1)] 1, ⟨none, .store 1, [.t 5, .t 24], none, 0, 2⟩]) .skip))))
def c87 : Fn := { fid := 87, np := 6, ntmps := 25, body := (.jn 33554493 c87_1), res := [] }
def d87_1 (c : Cx) (t0 t2 t3 t4 t5 : V) (H : List Blk) : X := stepK c.pc c.ic c.n (.jn 33554493 c87_1) (cn 0 25 [(0, t0), (2, t2), (3, t3), (4, t4), (5, t5)]) H (kTop c87.res)
def b87_1 (c : Cx) (t0 t2 t3 t4 t5 : V) (H : List Blk) : X := newK 1 H fun q H => (aBox (q + 0) t0).go H fun x1 H => p (aFld 3 t3) fun x2 => (aLoad true 4 x2).go H fun x3 H => p (aIx 2 t2 (ci 0)) fun x4 => (fun (t4 t5 x3 x4 : V) (H : L) (c : Cx) => (aLoad true 2 x4).go H fun x5 H => p (aCall c.pc 34 [x3, x5]) fun x6 => p (aExt 0 x6) fun x7 => p (aExt 1 x6) fun x8 => (aLoad false 1 t4).go H fun x9 H => p (aBin .eql x7 x9) fun x10 => condK x10 ((aLoad false 1 t5).go H fun x11 H => p (aBin .add x11 (ci 1)) fun x12 => (aStore 1 t5 x12).go H fun _ H => some (.tup [], H)) (some (.tup [], H))) t4 t5 x3 x4 H c
def j87_1 (c : Cx) : F5 := b87_1 c
theorem o87_1 (c : Cx) : d87_1 c = j87_1 c := by
  unfold j87_1
  funext t0 t2 t3 t4 t5 H
  refine Eq.trans (stepK_jn c.pc c.ic c.n _ H _ 33554493 c87_1) ?_
  kernel_rfl
def b87_0 (c : Cx) (j1 : F5) (t0 t1 t2 t3 t4 t5 : V) (H : List Blk) : X := j1 t0 t2 t3 t4 t5 H
def s87 (c : Cx) (args : List V) (H : List Blk) : X := argsK 6 args (b87_0 c (j87_1 c) (getT args 0) (getT args 1) (getT args 2) (getT args 3) (getT args 4) (getT args 5) H)
theorem e87 (pc ic n args H) : runK pc ic n c87 args H = s87 ⟨pc, ic, n⟩ args H := by
  unfold s87; rw [← o87_1]
  kernel_rfl
def L87 : Leaf := ⟨c87, fun pc ic n => s87 ⟨pc, ic, n⟩, e87⟩
theorem kk87 : chkFn Go.Proofs.Tryz.prog ET 87 c87 = true := by kernel_rfl

def c88_1 : C := (.seq (.reg 2 none [o 1 (.box 0) [.t 0] 0, o 2 (.alloc 1 z1) [] 1, m 3 (.c cf) 2]) (.seq (.reg 1 none [o 9 (.load true 4) [.t 1] 0, o 10 (.call 85) [.t 9, .c (ci 1)] 1, m 8 (.t 10) 2, o 11 (.ext 0) [.t 8] 3, o 12 (.ext 1) [.t 8] 4, o 4 (.alloc 0 z1) [] 5, ⟨none, .store 8, [.t 4, .t 11], none, 0, 6⟩, m 5 (.t 12) 7]) (.seq (.reg 0 none [o 14 (.load true 8) [.t 4] 0, o 15 (.call 90) [.t 14, .c (.d (.str [46, 119, 104, 46, 46, 119, 104, 46, 104, 101, 108, 100]))] 1, m 13 (.t 15) 2, o 16 (.ext 0) [.t 13] 3, o 17 (.ext 1) [.t 13] 4, m 6 (.t 16) 5, m 7 (.t 17) 6]) (.seq (.seq (.reg 0 none [m 18 (.t 7) 0, o 19 (.un .not) [.t 18] 1]) (.cond (.t 19) (.seq (.reg 0 none [o 20 (.build z1 []) [] 0, ⟨none, .store 8, [.t 2, .t 20], none, 0, 1⟩, m 3 (.c cf) 2]) .ret) .skip)) (.seq (.reg 0 none [o 21 (.load true 4) [.t 1] 0, m 22 (.t 6) 1, o 23 (.call 85) [.t 21, .t 22] 2, o 24 (.ext 0) [.t 23] 3, o 25 (.ext 1) [.t 23] 4, ⟨none, .store 8, [.t 2, .t 24], none, 0, 5⟩, m 3 (.t 25) 6]) .ret)))))
def c88 : Fn := { fid := 88, np := 1, ntmps := 26, body := (.jn 67108865 c88_1), res := [.cell 2 true 8, .tmp 3] }
def d88_1 (c : Cx) (t0 : V) (H : List Blk) : X := stepK c.pc c.ic c.n (.jn 67108865 c88_1) (cn 0 26 [(0, t0)]) H (kTop c88.res)
def b88_1 (c : Cx) (t0 : V) (H : List Blk) : X := newK 2 H fun q H => (aBox (q + 0) t0).go H fun x1 H => (aAlloc (q + 1) z1).go H fun x2 H => newK 1 H fun q H => (aLoad true 4 x1).go H fun x3 H => p (aCall c.pc 85 [x3, (ci 1)]) fun x4 => (fun (x1 x2 x4 : V) (q : Nat) (H : L) (c : Cx) => p (aExt 0 x4) fun x5 => p (aExt 1 x4) fun x6 => (aAlloc (q + 0) z1).go H fun x7 H => (aStore 8 x7 x5).go H fun _ H => (aLoad true 8 x7).go H fun x8 H => p (aCall c.pc 90 [x8, (.d (.str [46, 119, 104, 46, 46, 119, 104, 46, 104, 101, 108, 100]))]) fun x9 => p (aExt 0 x9) fun x10 => p (aExt 1 x9) fun x11 => p (aUn .not x11) fun x12 => condK x12 (p (aBuild z1 [] []) fun x13 => (aStore 8 x2 x13).go H fun _ H => bnd (loadV true 8 x2 H) fun x14 => some (.tup [x14, cf], H)) ((fun (x1 x2 x10 : V) (H : L) (c : Cx) => (aLoad true 4 x1).go H fun x15 H => (fun (x2 x10 x15 : V) (H : L) (c : Cx) => p (aCall c.pc 85 [x15, x10]) fun x16 => p (aExt 0 x16) fun x17 => p (aExt 1 x16) fun x18 => (aStore 8 x2 x17).go H fun _ H => bnd (loadV true 8 x2 H) fun x19 => some (.tup [x19, x18], H)) x2 x10 x15 H c) x1 x2 x10 H c)) x1 x2 x4 q H c
def j88_1 (c : Cx) : F1 := b88_1 c
theorem o88_1 (c : Cx) : d88_1 c = j88_1 c := by
  unfold j88_1
  funext t0 H
  refine Eq.trans (stepK_jn c.pc c.ic c.n _ H _ 67108865 c88_1) ?_
  kernel_rfl
def b88_0 (c : Cx) (j1 : F1) (t0 : V) (H : List Blk) : X := j1 t0 H
def s88 (c : Cx) (args : List V) (H : List Blk) : X := argsK 1 args (b88_0 c (j88_1 c) (getT args 0) H)
theorem e88 (pc ic n args H) : runK pc ic n c88 args H = s88 ⟨pc, ic, n⟩ args H := by
  unfold s88; rw [← o88_1]
  kernel_rfl
def L88 : Leaf := ⟨c88, fun pc ic n => s88 ⟨pc, ic, n⟩, e88⟩
theorem kk88 : chkFn Go.Proofs.Tryz.prog ET 88 c88 = true := by kernel_rfl

def c89_2 : C := (.seq (.reg 0 (some ⟨true, [], 75⟩) [o 63 (.load true 4) [.t 4] 0, o 64 (.load true 8) [.t 11] 1, m 65 (.t 2) 2, m 66 (.t 16) 3, ⟨some 67, .call 171, [.t 64, .t 65, .t 66], none, 14, 4⟩, ⟨some 68, .call 170, [.t 63, .t 67], none, 31, 5⟩, ⟨none, .store 4, [.t 4, .t 68], none, 63, 6⟩]) (.seq (.reg 0 none [o 69 (.fld 2) [.t 4] 0, o 70 (.load false 1) [.t 69] 1, o 71 (.bin .add) [.t 70, .c (ci 1)] 2, o 72 (.fld 2) [.t 4] 3, ⟨none, .store 1, [.t 72, .t 71], none, 0, 4⟩]) (.seq (.reg 0 none [o 73 (.load true 4) [.t 4] 0, m 74 (.t 16) 1, ⟨none, .store 4, [.t 8, .t 73], none, 0, 2⟩, m 9 (.t 74) 3, m 10 (.c (ci 0)) 4]) .ret)))
def c89_1 : C := (.seq (.reg 3 none [o 4 (.box 0) [.t 0] 0, o 7 (.box 1) [.t 3] 1, o 8 (.alloc 2 z0) [] 2, m 9 (.c (ci 0)) 3, m 10 (.c (ci 0)) 4]) (.seq (.reg 1 none [o 17 (.load true 4) [.t 4] 0, m 18 (.t 1) 1, o 19 (.call 168) [.t 17, .t 18] 2, o 11 (.alloc 0 z1) [] 3, ⟨none, .store 8, [.t 11, .t 19], none, 0, 4⟩]) (.seq (.seq (.reg 0 none [o 21 (.load true 8) [.t 11] 0, m 22 (.t 2) 1, o 23 (.call 90) [.t 21, .t 22] 2, m 20 (.t 23) 3, o 24 (.ext 0) [.t 20] 4, o 25 (.ext 1) [.t 20] 5, m 12 (.t 24) 6, m 13 (.t 25) 7]) (.seq (.reg 0 none [m 26 (.t 13) 0]) (.cond (.t 26) (.seq (.reg 0 none [o 27 (.load true 4) [.t 4] 0, ⟨none, .store 4, [.t 8, .t 27], none, 0, 1⟩, m 9 (.c (ci 0)) 2, m 10 (.c (ci 3)) 3]) .ret) .skip))) (.seq (.reg 0 none [o 29 (.load true 4) [.t 4] 0, o 30 (.call 169) [.t 29] 1, m 28 (.t 30) 2, o 31 (.ext 0) [.t 28] 3, o 32 (.ext 1) [.t 28] 4, m 14 (.t 31) 5, m 15 (.t 32) 6]) (.seq (.seq (.reg 0 none [m 33 (.t 15) 0, o 34 (.fld 1) [.t 4] 1, o 35 (.load false 1) [.t 34] 2, o 36 (.bin .geq) [.t 33, .t 35] 3, m 37 (.t 36) 4, ⟨some 38, .mov, [.t 14], some (37, false), 0, 5⟩, ⟨some 39, .fld 4, [.t 7], some (37, false), 0, 6⟩, ⟨some 40, .fld 1, [.t 39], some (37, false), 0, 7⟩, ⟨some 41, .load false 1, [.t 40], some (37, false), 0, 8⟩, ⟨some 42, .len 1, [.t 41], some (37, false), 0, 9⟩, ⟨some 43, .bin .add, [.t 38, .t 42], some (37, false), 0, 10⟩, ⟨some 44, .fld 0, [.t 4], some (37, false), 0, 11⟩, ⟨some 45, .load false 1, [.t 44], some (37, false), 0, 12⟩, ⟨some 46, .bin .gtr, [.t 43, .t 45], some (37, false), 0, 13⟩, o 47 .pick [.t 37, .c ct, .t 46] 14]) (.cond (.t 47) (.seq (.reg 0 none [o 48 (.load true 4) [.t 4] 0, ⟨none, .store 4, [.t 8, .t 48], none, 0, 1⟩, m 9 (.c (ci 0)) 2, m 10 (.c (ci 8)) 3]) .ret) .skip)) (.seq (.reg 0 none [o 49 (.fld 2) [.t 4] 0, o 50 (.load false 1) [.t 49] 1, m 16 (.t 50) 2]) (.seq (.reg 0 none [o 51 (.load true 4) [.t 4] 0, m 52 (.t 16) 1, o 53 (.fld 1) [.t 7] 2, o 54 (.load false 1) [.t 53] 3, o 55 (.fld 2) [.t 7] 4, o 56 (.load false 1) [.t 55] 5, o 57 (.fld 4) [.t 7] 6, o 58 (.load true 2) [.t 57] 7, o 59 (.fld 6) [.t 7] 8, o 60 (.load false 1) [.t 59] 9, o 61 (.build z1 z7) [.t 52, .t 54, .t 56, .c (ci 1), .t 58, .t 60] 10, o 62 (.call 170) [.t 51, .t 61] 11, ⟨none, .store 4, [.t 4, .t 62], none, 0, 12⟩]) (.jn 75557863725914323486996 c89_2))))))))
def c89 : Fn := { fid := 89, np := 4, ntmps := 75, body := (.jn 37778931862957161709583 c89_1), res := [.cell 8 true 4, .tmp 9, .tmp 10] }
def d89_1 (c : Cx) (t0 t1 t2 t3 : V) (H : List Blk) : X := stepK c.pc c.ic c.n (.jn 37778931862957161709583 c89_1) (cn 0 75 [(0, t0), (1, t1), (2, t2), (3, t3)]) H (kTop c89.res)
def d89_2 (c : Cx) (t2 t4 t8 t11 t16 : V) (H : List Blk) : X := stepK c.pc c.ic c.n (.jn 75557863725914323486996 c89_2) (cn 0 75 [(2, t2), (4, t4), (8, t8), (11, t11), (16, t16)]) H (kTop c89.res)
def b89_2 (c : Cx) (t2 t4 t8 t11 t16 : V) (H : List Blk) : X := (aLoad true 4 t4).go H fun x1 H => (fun (t2 t4 t8 t11 t16 x1 : V) (H : L) (c : Cx) => (aLoad true 8 t11).go H fun x2 H => p (aCall c.pc 171 [x2, t2, t16]) fun x3 => p (aCall c.pc 170 [x1, x3]) fun x4 => (aStore 4 t4 x4).go H fun _ H => p (aFld 2 t4) fun x5 => (fun (t4 t8 t16 x5 : V) (H : L) => (aLoad false 1 x5).go H fun x6 H => p (aBin .add x6 (ci 1)) fun x7 => p (aFld 2 t4) fun x8 => (aStore 1 x8 x7).go H fun _ H => (aLoad true 4 t4).go H fun x9 H => (aStore 4 t8 x9).go H fun _ H => bnd (loadV true 4 t8 H) fun x10 => some (.tup [x10, t16, (ci 0)], H)) t4 t8 t16 x5 H) t2 t4 t8 t11 t16 x1 H c
def j89_2 (c : Cx) : F5 := b89_2 c
theorem o89_2 (c : Cx) : d89_2 c = j89_2 c := by
  unfold j89_2
  funext t2 t4 t8 t11 t16 H
  refine Eq.trans (stepK_jn c.pc c.ic c.n _ H _ 75557863725914323486996 c89_2) ?_
  kernel_rfl
def b89_1 (c : Cx) (j2 : F5) (t0 t1 t2 t3 : V) (H : List Blk) : X := newK 3 H fun q H => (aBox (q + 0) t0).go H fun x1 H => (aBox (q + 1) t3).go H fun x2 H => (aAlloc (q + 2) z0).go H fun x3 H => newK 1 H fun q H => (fun (t1 t2 x1 x2 x3 : V) (q : Nat) (H : L) (c : Cx) (j2 : F5) => (aLoad true 4 x1).go H fun x4 H => p (aCall c.pc 168 [x4, t1]) fun x5 => (aAlloc (q + 0) z1).go H fun x6 H => (aStore 8 x6 x5).go H fun _ H => (aLoad true 8 x6).go H fun x7 H => p (aCall c.pc 90 [x7, t2]) fun x8 => p (aExt 0 x8) fun x9 => p (aExt 1 x8) fun x10 => condK x10 ((aLoad true 4 x1).go H fun x11 H => (aStore 4 x3 x11).go H fun _ H => bnd (loadV true 4 x3 H) fun x12 => some (.tup [x12, (ci 0), (ci 3)], H)) ((fun (t2 x1 x2 x3 x6 : V) (H : L) (c : Cx) (j2 : F5) => (aLoad true 4 x1).go H fun x13 H => p (aCall c.pc 169 [x13]) fun x14 => p (aExt 0 x14) fun x15 => p (aExt 1 x14) fun x16 => p (aFld 1 x1) fun x17 => (fun (t2 x1 x2 x3 x6 x15 x16 x17 : V) (H : L) (c : Cx) (j2 : F5) => (aLoad false 1 x17).go H fun x18 H => p (aBin .geq x16 x18) fun x19 => guardK x19 false (fun k => (aMov x15).go H k) H fun x20 H => guardK x19 false (fun k => (aFld 4 x2).go H k) H fun x21 H => (fun (t2 x1 x2 x3 x6 x19 x20 x21 : V) (H : L) (c : Cx) (j2 : F5) => guardK x19 false (fun k => (aFld 1 x21).go H k) H fun x22 H => guardK x19 false (fun k => (aLoad false 1 x22).go H k) H fun x23 H => guardK x19 false (fun k => (aLen 1 x23).go H k) H fun x24 H => guardK x19 false (fun k => (aBin .add x20 x24).go H k) H fun x25 H => (fun (t2 x1 x2 x3 x6 x19 x25 : V) (H : L) (c : Cx) (j2 : F5) => guardK x19 false (fun k => (aFld 0 x1).go H k) H fun x26 H => guardK x19 false (fun k => (aLoad false 1 x26).go H k) H fun x27 H => guardK x19 false (fun k => (aBin .gtr x25 x27).go H k) H fun x28 H => p (aPick x19 ct x28) fun x29 => condK x29 ((aLoad true 4 x1).go H fun x30 H => (aStore 4 x3 x30).go H fun _ H => bnd (loadV true 4 x3 H) fun x31 => some (.tup [x31, (ci 0), (ci 8)], H)) ((fun (t2 x1 x2 x3 x6 : V) (H : L) (c : Cx) (j2 : F5) => p (aFld 2 x1) fun x32 => (aLoad false 1 x32).go H fun x33 H => (aLoad true 4 x1).go H fun x34 H => p (aFld 1 x2) fun x35 => (aLoad false 1 x35).go H fun x36 H => p (aFld 2 x2) fun x37 => (fun (t2 x1 x2 x3 x6 x33 x34 x36 x37 : V) (H : L) (c : Cx) (j2 : F5) => (aLoad false 1 x37).go H fun x38 H => p (aFld 4 x2) fun x39 => (aLoad true 2 x39).go H fun x40 H => p (aFld 6 x2) fun x41 => (fun (t2 x1 x3 x6 x33 x34 x36 x38 x40 x41 : V) (H : L) (c : Cx) (j2 : F5) => (aLoad false 1 x41).go H fun x42 H => p (aBuild z1 z7 [x33, x36, x38, (ci 1), x40, x42]) fun x43 => p (aCall c.pc 170 [x34, x43]) fun x44 => (aStore 4 x1 x44).go H fun _ H => j2 t2 x1 x3 x6 x33 H) t2 x1 x3 x6 x33 x34 x36 x38 x40 x41 H c j2) t2 x1 x2 x3 x6 x33 x34 x36 x37 H c j2) t2 x1 x2 x3 x6 H c j2)) t2 x1 x2 x3 x6 x19 x25 H c j2) t2 x1 x2 x3 x6 x19 x20 x21 H c j2) t2 x1 x2 x3 x6 x15 x16 x17 H c j2) t2 x1 x2 x3 x6 H c j2)) t1 t2 x1 x2 x3 q H c j2
def j89_1 (c : Cx) : F4 := b89_1 c (j89_2 c)
theorem o89_1 (c : Cx) : d89_1 c = j89_1 c := by
  unfold j89_1; rw [← o89_2]
  funext t0 t1 t2 t3 H
  refine Eq.trans (stepK_jn c.pc c.ic c.n _ H _ 37778931862957161709583 c89_1) ?_
  kernel_rfl
def b89_0 (c : Cx) (j1 : F4) (t0 t1 t2 t3 : V) (H : List Blk) : X := j1 t0 t1 t2 t3 H
def s89 (c : Cx) (args : List V) (H : List Blk) : X := argsK 4 args (b89_0 c (j89_1 c) (getT args 0) (getT args 1) (getT args 2) (getT args 3) H)
theorem e89 (pc ic n args H) : runK pc ic n c89 args H = s89 ⟨pc, ic, n⟩ args H := by
  unfold s89; rw [← o89_1]
  kernel_rfl
def L89 : Leaf := ⟨c89, fun pc ic n => s89 ⟨pc, ic, n⟩, e89⟩
theorem kk89 : chkFn Go.Proofs.Tryz.prog ET 89 c89 = true := by kernel_rfl

def c90_1 : C := (.seq (.reg 1 none [o 2 (.box 0) [.t 0] 0, m 4 (.c (ci 0)) 1, m 5 (.c cf) 2]) (.seq (.reg 0 none [o 9 (.load true 8) [.t 2] 0, m 10 (.t 1) 1, o 11 (.call 172) [.t 9, .t 10] 2, m 8 (.t 11) 3, o 12 (.ext 0) [.t 8] 4, o 13 (.ext 1) [.t 8] 5, m 6 (.t 12) 6, m 7 (.t 13) 7]) (.seq (.seq (.reg 0 none [m 14 (.t 7) 0, o 15 (.un .not) [.t 14] 1]) (.cond (.t 15) (.seq (.reg 0 none [m 4 (.c (ci 0)) 0, m 5 (.c cf) 1]) .ret) .skip)) (.seq (.reg 0 none [o 16 (.fld 7) [.t 2] 0, o 17 (.load false 1) [.t 16] 1, m 18 (.t 6) 2, o 19 (.ix 2) [.t 17, .t 18] 3, o 20 (.fld 1) [.t 19] 4, o 21 (.load false 1) [.t 20] 5, m 4 (.t 21) 6, m 5 (.c ct) 7]) .ret))))
def c90 : Fn := { fid := 90, np := 2, ntmps := 22, body := (.jn 4194307 c90_1), res := [.tmp 4, .tmp 5] }
def d90_1 (c : Cx) (t0 t1 : V) (H : List Blk) : X := stepK c.pc c.ic c.n (.jn 4194307 c90_1) (cn 0 22 [(0, t0), (1, t1)]) H (kTop c90.res)
def b90_1 (c : Cx) (t0 t1 : V) (H : List Blk) : X := newK 1 H fun q H => (aBox (q + 0) t0).go H fun x1 H => (aLoad true 8 x1).go H fun x2 H => p (aCall c.pc 172 [x2, t1]) fun x3 => p (aExt 0 x3) fun x4 => p (aExt 1 x3) fun x5 => p (aUn .not x5) fun x6 => condK x6 (some (.tup [(ci 0), cf], H)) ((fun (x1 x4 : V) (H : L) => p (aFld 7 x1) fun x7 => (aLoad false 1 x7).go H fun x8 H => p (aIx 2 x8 x4) fun x9 => p (aFld 1 x9) fun x10 => (aLoad false 1 x10).go H fun x11 H => some (.tup [x11, ct], H)) x1 x4 H)
def j90_1 (c : Cx) : F2 := b90_1 c
theorem o90_1 (c : Cx) : d90_1 c = j90_1 c := by
  unfold j90_1
  funext t0 t1 H
  refine Eq.trans (stepK_jn c.pc c.ic c.n _ H _ 4194307 c90_1) ?_
  kernel_rfl
def b90_0 (c : Cx) (j1 : F2) (t0 t1 : V) (H : List Blk) : X := j1 t0 t1 H
def s90 (c : Cx) (args : List V) (H : List Blk) : X := argsK 2 args (b90_0 c (j90_1 c) (getT args 0) (getT args 1) H)
theorem e90 (pc ic n args H) : runK pc ic n c90 args H = s90 ⟨pc, ic, n⟩ args H := by
  unfold s90; rw [← o90_1]
  kernel_rfl
def L90 : Leaf := ⟨c90, fun pc ic n => s90 ⟨pc, ic, n⟩, e90⟩
theorem kk90 : chkFn Go.Proofs.Tryz.prog ET 90 c90 = true := by kernel_rfl

def c93_1 : C := (.seq (.reg 3 none [o 3 (.box 0) [.t 0] 0, o 5 (.box 1) [.t 2] 1, o 6 (.alloc 2 z14) [] 2]) (.seq (.reg 1 none [o 7 (.fld 2) [.t 3] 0, o 8 (.load false 1) [.t 7] 1, o 9 (.cloneA 0 4 48) [.t 8] 2, o 10 (.fld 2) [.t 3] 3, ⟨none, .store 1, [.t 10, .t 9], none, 0, 4⟩]) (.seq (.reg 0 none [o 11 (.fld 2) [.t 3] 0, o 12 (.load false 1) [.t 11] 1, m 13 (.t 1) 2, o 14 (.load true 4) [.t 5] 3, o 15 (.ix 4) [.t 12, .t 13] 4, ⟨none, .store 4, [.t 15, .t 14], none, 0, 5⟩]) (.seq (.reg 0 none [o 16 (.load true 7) [.t 3] 0, ⟨none, .store 7, [.t 6, .t 16], none, 0, 1⟩]) .ret))))
def c93 : Fn := { fid := 93, np := 3, ntmps := 17, body := (.jn 131079 c93_1), res := [.cell 6 true 7] }
def d93_1 (c : Cx) (t0 t1 t2 : V) (H : List Blk) : X := stepK c.pc c.ic c.n (.jn 131079 c93_1) (cn 0 17 [(0, t0), (1, t1), (2, t2)]) H (kTop c93.res)
def b93_1 (c : Cx) (t0 t1 t2 : V) (H : List Blk) : X := newK 3 H fun q H => (aBox (q + 0) t0).go H fun x1 H => (aBox (q + 1) t2).go H fun x2 H => (aAlloc (q + 2) z14).go H fun x3 H => newK 1 H fun q H => p (aFld 2 x1) fun x4 => (fun (t1 x1 x2 x3 x4 : V) (q : Nat) (H : L) => (aLoad false 1 x4).go H fun x5 H => (aCloneA (q + 0) 4 48 x5).go H fun x6 H => p (aFld 2 x1) fun x7 => (aStore 1 x7 x6).go H fun _ H => p (aFld 2 x1) fun x8 => (fun (t1 x1 x2 x3 x8 : V) (H : L) => (aLoad false 1 x8).go H fun x9 H => (aLoad true 4 x2).go H fun x10 H => p (aIx 4 x9 t1) fun x11 => (aStore 4 x11 x10).go H fun _ H => (aLoad true 7 x1).go H fun x12 H => (aStore 7 x3 x12).go H fun _ H => bnd (loadV true 7 x3 H) fun x13 => some (x13, H)) t1 x1 x2 x3 x8 H) t1 x1 x2 x3 x4 q H
def j93_1 (c : Cx) : F3 := b93_1 c
theorem o93_1 (c : Cx) : d93_1 c = j93_1 c := by
  unfold j93_1
  funext t0 t1 t2 H
  refine Eq.trans (stepK_jn c.pc c.ic c.n _ H _ 131079 c93_1) ?_
  kernel_rfl
def b93_0 (c : Cx) (j1 : F3) (t0 t1 t2 : V) (H : List Blk) : X := j1 t0 t1 t2 H
def s93 (c : Cx) (args : List V) (H : List Blk) : X := argsK 3 args (b93_0 c (j93_1 c) (getT args 0) (getT args 1) (getT args 2) H)
theorem e93 (pc ic n args H) : runK pc ic n c93 args H = s93 ⟨pc, ic, n⟩ args H := by
  unfold s93; rw [← o93_1]
  kernel_rfl
def L93 : Leaf := ⟨c93, fun pc ic n => s93 ⟨pc, ic, n⟩, e93⟩
theorem kk93 : chkFn Go.Proofs.Tryz.prog ET 93 c93 = true := by kernel_rfl

def c94_1 : C := (.seq (.reg 1 none [o 2 (.box 0) [.t 0] 0, m 4 (.c .nilS) 1, m 5 (.c (ci 0)) 2, m 6 (.c (.d (.str []))) 3, m 7 (.c (ci 0)) 4]) (.seq (.seq (.reg 0 none [m 8 (.t 1) 0, o 9 (.len 1) [.t 8] 1, o 10 (.bin .eql) [.t 9, .c (ci 0)] 2]) (.cond (.t 10) (.seq (.reg 0 none [m 4 (.c .nilS) 0, m 5 (.c (ci 0)) 1, m 6 (.c (.d (.str []))) 2, m 7 (.c (ci 2)) 3]) .ret) .skip)) (.seq (.reg 0 (some ⟨true, [0, 1, 2, 3, 4, 5, 6, 7, 8, 11, 9, 12, 10, 13], 41⟩) [o 12 (.load true 7) [.t 2] 0, m 13 (.t 1) 1, m 14 (.t 1) 2, ⟨some 15, .len 1, [.t 14], none, 4, 3⟩, ⟨some 16, .bin .sub, [.t 15, .c (ci 1)], none, 12, 4⟩, ⟨some 17, .sub 1 false true false, [.t 13, .t 16], none, 30, 5⟩, ⟨some 18, .call 33, [.t 12, .t 17], none, 63, 6⟩, ⟨some 11, .mov, [.t 18], none, 127, 7⟩, ⟨some 19, .ext 0, [.t 11], none, 255, 8⟩, ⟨some 20, .ext 1, [.t 11], none, 255, 9⟩, ⟨some 21, .ext 2, [.t 11], none, 255, 10⟩, ⟨some 4, .mov, [.t 19], none, 511, 11⟩, ⟨some 5, .mov, [.t 20], none, 3071, 12⟩, ⟨some 7, .mov, [.t 21], none, 8191, 13⟩]) (.seq (.blk 0 (.seq (.reg 0 none [m 23 (.t 7) 0, o 24 (.bin .neq) [.t 23, .c (ci 0)] 1, m 22 (.t 24) 2]) (.cond (.t 22) (.seq (.reg 0 none [m 25 (.t 7) 0, m 4 (.c .nilS) 1, m 5 (.c (ci 0)) 2, m 6 (.c (.d (.str []))) 3, m 7 (.t 25) 4]) .ret) (.seq (.reg 0 (some ⟨true, [], 41⟩) [o 27 (.load true 7) [.t 2] 0, m 28 (.t 4) 1, ⟨some 29, .ix 2, [.t 28, .c (ci 0)], none, 2, 2⟩, ⟨some 30, .load true 2, [.t 29], none, 6, 3⟩, ⟨some 31, .call 77, [.t 27, .t 30], none, 15, 4⟩, ⟨some 32, .un .not, [.t 31], none, 31, 5⟩, ⟨some 26, .mov, [.t 32], none, 63, 6⟩]) (.cond (.t 26) (.seq (.reg 0 none [m 4 (.c .nilS) 0, m 5 (.c (ci 0)) 1, m 6 (.c (.d (.str []))) 2, m 7 (.c (ci 4)) 3]) .ret) .skip))))) (.seq (.reg 0 (some ⟨true, [0, 3, 4, 8, 1, 9, 2, 5, 6, 7, 10, 11], 41⟩) [m 33 (.t 4) 0, m 34 (.t 5) 1, m 35 (.t 1) 2, m 36 (.t 1) 3, ⟨some 37, .len 1, [.t 36], none, 8, 4⟩, ⟨some 38, .bin .sub, [.t 37, .c (ci 1)], none, 24, 5⟩, ⟨some 39, .ix 1, [.t 35, .t 38], none, 60, 6⟩, ⟨some 40, .load false 1, [.t 39], none, 124, 7⟩, ⟨some 4, .mov, [.t 33], none, 1, 8⟩, ⟨some 5, .mov, [.t 34], none, 259, 9⟩, ⟨some 6, .mov, [.t 40], none, 1023, 10⟩, ⟨some 7, .mov, [.c (ci 0)], none, 2047, 11⟩]) .ret)))))
def c94 : Fn := { fid := 94, np := 2, ntmps := 41, body := (.jn 2199023255555 c94_1), res := [.tmp 4, .tmp 5, .tmp 6, .tmp 7] }
def d94_1 (c : Cx) (t0 t1 : V) (H : List Blk) : X := stepK c.pc c.ic c.n (.jn 2199023255555 c94_1) (cn 0 41 [(0, t0), (1, t1)]) H (kTop c94.res)
def b94_1 (c : Cx) (t0 t1 : V) (H : List Blk) : X := newK 1 H fun q H => (aBox (q + 0) t0).go H fun x1 H => (aLen 1 t1).go H fun x2 H => p (aBin .eql x2 (ci 0)) fun x3 => condK x3 (some (.tup [.nilS, (ci 0), (.d (.str [])), (ci 2)], H)) ((fun (t1 x1 : V) (H : L) (c : Cx) => (aLoad true 7 x1).go H fun x4 H => (aLen 1 t1).go H fun x5 H => p (aBin .sub x5 (ci 1)) fun x6 => (aSub 1 false true false t1 [x6]).go H fun x7 H => (fun (t1 x1 x4 x7 : V) (H : L) (c : Cx) => p (aCall c.pc 33 [x4, x7]) fun x8 => p (aExt 0 x8) fun x9 => p (aExt 1 x8) fun x10 => p (aExt 2 x8) fun x11 => p (aBin .neq x11 (ci 0)) fun x12 => condK x12 (some (.tup [.nilS, (ci 0), (.d (.str [])), x11], H)) ((fun (t1 x1 x9 x10 : V) (H : L) (c : Cx) => (aLoad true 7 x1).go H fun x13 H => (fun (t1 x9 x10 x13 : V) (H : L) (c : Cx) => p (aIx 2 x9 (ci 0)) fun x14 => (aLoad true 2 x14).go H fun x15 H => p (aCall c.pc 77 [x13, x15]) fun x16 => p (aUn .not x16) fun x17 => condK x17 (some (.tup [.nilS, (ci 0), (.d (.str [])), (ci 4)], H)) ((fun (t1 x9 x10 : V) (H : L) => (aLen 1 t1).go H fun x18 H => p (aBin .sub x18 (ci 1)) fun x19 => p (aIx 1 t1 x19) fun x20 => (aLoad false 1 x20).go H fun x21 H => some (.tup [x9, x10, x21, (ci 0)], H)) t1 x9 x10 H)) t1 x9 x10 x13 H c) t1 x1 x9 x10 H c)) t1 x1 x4 x7 H c) t1 x1 H c)
def j94_1 (c : Cx) : F2 := b94_1 c
theorem o94_1 (c : Cx) : d94_1 c = j94_1 c := by
  unfold j94_1
  funext t0 t1 H
  refine Eq.trans (stepK_jn c.pc c.ic c.n _ H _ 2199023255555 c94_1) ?_
  kernel_rfl
def b94_0 (c : Cx) (j1 : F2) (t0 t1 : V) (H : List Blk) : X := j1 t0 t1 H
def s94 (c : Cx) (args : List V) (H : List Blk) : X := argsK 2 args (b94_0 c (j94_1 c) (getT args 0) (getT args 1) H)
theorem e94 (pc ic n args H) : runK pc ic n c94 args H = s94 ⟨pc, ic, n⟩ args H := by
  unfold s94; rw [← o94_1]
  kernel_rfl
def L94 : Leaf := ⟨c94, fun pc ic n => s94 ⟨pc, ic, n⟩, e94⟩
theorem kk94 : chkFn Go.Proofs.Tryz.prog ET 94 c94 = true := by kernel_rfl

def c95_1 : C := (.seq (.reg 2 none [o 3 (.box 0) [.t 0] 0, o 6 (.alloc 1 z0) [] 1, m 7 (.c (ci 0)) 2]) (.seq (.reg 1 none [o 12 (.load true 4) [.t 3] 0, m 13 (.t 1) 1, o 14 (.call 168) [.t 12, .t 13] 2, o 8 (.alloc 0 z1) [] 3, ⟨none, .store 8, [.t 8, .t 14], none, 0, 4⟩]) (.seq (.reg 0 none [o 16 (.load true 8) [.t 8] 0, m 17 (.t 2) 1, o 18 (.call 90) [.t 16, .t 17] 2, m 15 (.t 18) 3, o 19 (.ext 0) [.t 15] 4, o 20 (.ext 1) [.t 15] 5, m 9 (.t 19) 6, m 10 (.t 20) 7]) (.seq (.seq (.reg 0 none [m 21 (.t 10) 0, o 22 (.un .not) [.t 21] 1]) (.cond (.t 22) (.seq (.reg 0 none [o 23 (.load true 4) [.t 3] 0, ⟨none, .store 4, [.t 6, .t 23], none, 0, 1⟩, m 7 (.c (ci 2)) 2]) .ret) .skip)) (.seq (.reg 1 none [o 24 (.load true 4) [.t 3] 0, m 25 (.t 9) 1, o 26 (.call 168) [.t 24, .t 25] 2, o 11 (.alloc 0 z1) [] 3, ⟨none, .store 8, [.t 11, .t 26], none, 0, 4⟩]) (.seq (.reg 0 none [o 27 (.fld 3) [.t 11] 0, o 28 (.load false 1) [.t 27] 1, o 29 (.bin .sub) [.t 28, .c (ci 1)] 2, o 30 (.fld 3) [.t 11] 3, ⟨none, .store 1, [.t 30, .t 29], none, 0, 4⟩]) (.seq (.reg 0 (some ⟨true, [], 50⟩) [o 31 (.load true 4) [.t 3] 0, o 32 (.load true 8) [.t 8] 1, m 33 (.t 2) 2, ⟨some 34, .call 175, [.t 32, .t 33], none, 6, 3⟩, ⟨some 35, .call 170, [.t 31, .t 34], none, 15, 4⟩, ⟨none, .store 4, [.t 3, .t 35], none, 31, 5⟩]) (.seq (.seq (.reg 0 none [o 36 (.fld 3) [.t 11] 0, o 37 (.load false 1) [.t 36] 1, o 38 (.bin .lss) [.t 37, .c (ci 1)] 2, m 39 (.t 38) 3, ⟨some 40, .fld 1, [.t 11], some (39, false), 0, 4⟩, ⟨some 41, .load false 1, [.t 40], some (39, false), 0, 5⟩, ⟨some 42, .bin .eql, [.t 41, .c (ci 2)], some (39, false), 0, 6⟩, o 43 .pick [.t 39, .c ct, .t 42] 7]) (.cond (.t 43) (.seq (.reg 0 none [o 44 (.load true 4) [.t 3] 0, m 45 (.t 9) 1, o 46 (.call 176) [.t 44, .t 45] 2, ⟨none, .store 4, [.t 6, .t 46], none, 0, 3⟩, m 7 (.c (ci 0)) 4]) .ret) .skip)) (.seq (.reg 0 none [o 47 (.load true 4) [.t 3] 0, o 48 (.load true 8) [.t 11] 1, o 49 (.call 170) [.t 47, .t 48] 2, ⟨none, .store 4, [.t 6, .t 49], none, 0, 3⟩, m 7 (.c (ci 0)) 4]) .ret)))))))))
def c95 : Fn := { fid := 95, np := 3, ntmps := 50, body := (.jn 1125899906842631 c95_1), res := [.cell 6 true 4, .tmp 7] }
def d95_1 (c : Cx) (t0 t1 t2 : V) (H : List Blk) : X := stepK c.pc c.ic c.n (.jn 1125899906842631 c95_1) (cn 0 50 [(0, t0), (1, t1), (2, t2)]) H (kTop c95.res)
def b95_1 (c : Cx) (t0 t1 t2 : V) (H : List Blk) : X := newK 2 H fun q H => (aBox (q + 0) t0).go H fun x1 H => (aAlloc (q + 1) z0).go H fun x2 H => newK 1 H fun q H => (fun (t1 t2 x1 x2 : V) (q : Nat) (H : L) (c : Cx) => (aLoad true 4 x1).go H fun x3 H => p (aCall c.pc 168 [x3, t1]) fun x4 => (aAlloc (q + 0) z1).go H fun x5 H => (aStore 8 x5 x4).go H fun _ H => (aLoad true 8 x5).go H fun x6 H => p (aCall c.pc 90 [x6, t2]) fun x7 => p (aExt 0 x7) fun x8 => p (aExt 1 x7) fun x9 => p (aUn .not x9) fun x10 => condK x10 ((aLoad true 4 x1).go H fun x11 H => (aStore 4 x2 x11).go H fun _ H => bnd (loadV true 4 x2 H) fun x12 => some (.tup [x12, (ci 2)], H)) ((fun (t2 x1 x2 x5 x8 : V) (H : L) (c : Cx) => newK 1 H fun q H => (fun (t2 x1 x2 x5 x8 : V) (q : Nat) (H : L) (c : Cx) => (aLoad true 4 x1).go H fun x13 H => p (aCall c.pc 168 [x13, x8]) fun x14 => (aAlloc (q + 0) z1).go H fun x15 H => (aStore 8 x15 x14).go H fun _ H => p (aFld 3 x15) fun x16 => (fun (t2 x1 x2 x5 x8 x15 x16 : V) (H : L) (c : Cx) => (aLoad false 1 x16).go H fun x17 H => p (aBin .sub x17 (ci 1)) fun x18 => p (aFld 3 x15) fun x19 => (aStore 1 x19 x18).go H fun _ H => (aLoad true 4 x1).go H fun x20 H => (fun (t2 x1 x2 x5 x8 x15 x20 : V) (H : L) (c : Cx) => (aLoad true 8 x5).go H fun x21 H => p (aCall c.pc 175 [x21, t2]) fun x22 => p (aCall c.pc 170 [x20, x22]) fun x23 => (aStore 4 x1 x23).go H fun _ H => p (aFld 3 x15) fun x24 => (aLoad false 1 x24).go H fun x25 H => p (aBin .lss x25 (ci 1)) fun x26 => (fun (x1 x2 x8 x15 x26 : V) (H : L) (c : Cx) => guardK x26 false (fun k => (aFld 1 x15).go H k) H fun x27 H => guardK x26 false (fun k => (aLoad false 1 x27).go H k) H fun x28 H => guardK x26 false (fun k => (aBin .eql x28 (ci 2)).go H k) H fun x29 H => p (aPick x26 ct x29) fun x30 => condK x30 ((fun (x1 x2 x8 : V) (H : L) (c : Cx) => (aLoad true 4 x1).go H fun x31 H => p (aCall c.pc 176 [x31, x8]) fun x32 => (aStore 4 x2 x32).go H fun _ H => bnd (loadV true 4 x2 H) fun x33 => some (.tup [x33, (ci 0)], H)) x1 x2 x8 H c) ((fun (x1 x2 x15 : V) (H : L) (c : Cx) => (aLoad true 4 x1).go H fun x34 H => (aLoad true 8 x15).go H fun x35 H => p (aCall c.pc 170 [x34, x35]) fun x36 => (aStore 4 x2 x36).go H fun _ H => bnd (loadV true 4 x2 H) fun x37 => some (.tup [x37, (ci 0)], H)) x1 x2 x15 H c)) x1 x2 x8 x15 x26 H c) t2 x1 x2 x5 x8 x15 x20 H c) t2 x1 x2 x5 x8 x15 x16 H c) t2 x1 x2 x5 x8 q H c) t2 x1 x2 x5 x8 H c)) t1 t2 x1 x2 q H c
def j95_1 (c : Cx) : F3 := b95_1 c
theorem o95_1 (c : Cx) : d95_1 c = j95_1 c := by
  unfold j95_1
  funext t0 t1 t2 H
  refine Eq.trans (stepK_jn c.pc c.ic c.n _ H _ 1125899906842631 c95_1) ?_
  kernel_rfl
def b95_0 (c : Cx) (j1 : F3) (t0 t1 t2 : V) (H : List Blk) : X := j1 t0 t1 t2 H
def s95 (c : Cx) (args : List V) (H : List Blk) : X := argsK 3 args (b95_0 c (j95_1 c) (getT args 0) (getT args 1) (getT args 2) H)
theorem e95 (pc ic n args H) : runK pc ic n c95 args H = s95 ⟨pc, ic, n⟩ args H := by
  unfold s95; rw [← o95_1]
  kernel_rfl
def L95 : Leaf := ⟨c95, fun pc ic n => s95 ⟨pc, ic, n⟩, e95⟩
theorem kk95 : chkFn Go.Proofs.Tryz.prog ET 95 c95 = true := by kernel_rfl

def c96_1 : C := (.seq (.reg 3 none [o 2 (.box 0) [.t 0] 0, o 3 (.box 1) [.t 1] 1, o 4 (.alloc 2 z10) [] 2]) (.seq (.reg 0 none [o 5 (.load true 4) [.t 2] 0, o 6 (.icall 108) [.t 5] 1, ⟨none, .store 4, [.t 2, .t 6], none, 0, 2⟩]) (.seq (.reg 0 none [o 7 (.fld 1) [.t 2] 0, o 8 (.load false 1) [.t 7] 1, o 9 (.mkF 177) [.t 3] 2, o 10 (.icall 110) [.t 8, .t 9] 3, o 11 (.fld 1) [.t 2] 4, ⟨none, .store 1, [.t 11, .t 10], none, 0, 5⟩]) (.seq (.reg 0 none [o 12 (.load true 4) [.t 2] 0, ⟨none, .store 4, [.t 4, .t 12], none, 0, 1⟩]) .ret))))
def c96 : Fn := { fid := 96, np := 2, ntmps := 13, body := (.jn 8195 c96_1), res := [.cell 4 true 4] }
def d96_1 (c : Cx) (t0 t1 : V) (H : List Blk) : X := stepK c.pc c.ic c.n (.jn 8195 c96_1) (cn 0 13 [(0, t0), (1, t1)]) H (kTop c96.res)
def b96_1 (c : Cx) (t0 t1 : V) (H : List Blk) : X := newK 3 H fun q H => (aBox (q + 0) t0).go H fun x1 H => (aBox (q + 1) t1).go H fun x2 H => (aAlloc (q + 2) z10).go H fun x3 H => (aLoad true 4 x1).go H fun x4 H => icK c 108 [x4] H fun x5 H => (aStore 4 x1 x5).go H fun _ H => p (aFld 1 x1) fun x6 => (aLoad false 1 x6).go H fun x7 H => (fun (x1 x2 x3 x7 : V) (H : L) (c : Cx) => p (aMkF 177 [x2]) fun x8 => icK c 110 [x7, x8] H fun x9 H => p (aFld 1 x1) fun x10 => (aStore 1 x10 x9).go H fun _ H => (aLoad true 4 x1).go H fun x11 H => (aStore 4 x3 x11).go H fun _ H => bnd (loadV true 4 x3 H) fun x12 => some (x12, H)) x1 x2 x3 x7 H c
def j96_1 (c : Cx) : F2 := b96_1 c
theorem o96_1 (c : Cx) : d96_1 c = j96_1 c := by
  unfold j96_1
  funext t0 t1 H
  refine Eq.trans (stepK_jn c.pc c.ic c.n _ H _ 8195 c96_1) ?_
  kernel_rfl
def b96_0 (c : Cx) (j1 : F2) (t0 t1 : V) (H : List Blk) : X := j1 t0 t1 H
def s96 (c : Cx) (args : List V) (H : List Blk) : X := argsK 2 args (b96_0 c (j96_1 c) (getT args 0) (getT args 1) H)
theorem e96 (pc ic n args H) : runK pc ic n c96 args H = s96 ⟨pc, ic, n⟩ args H := by
  unfold s96; rw [← o96_1]
  kernel_rfl
def L96 : Leaf := ⟨c96, fun pc ic n => s96 ⟨pc, ic, n⟩, e96⟩
theorem kk96 : chkFn Go.Proofs.Tryz.prog ET 96 c96 = true := by kernel_rfl

def c97_2 : C := (.seq (.reg 0 none [o 43 (.bin .lss) [.t 42, .t 41] 0]) (.seq (.cond (.t 43) .skip (.exit 1)) (.seq (.blk 2 (.seq (.reg 0 none [m 44 (.t 42) 0, o 45 (.ix 1) [.t 40, .t 42] 1, o 46 (.load false 1) [.t 45] 2, m 14 (.t 44) 3, m 15 (.t 46) 4]) (.seq (.reg 0 (some ⟨true, [0, 1, 2, 3, 4, 5, 6, 9, 7, 10, 8, 11], 73⟩) [o 48 (.load true 7) [.t 3] 0, m 49 (.t 1) 1, m 50 (.t 14) 2, ⟨some 51, .sub 1 false true false, [.t 49, .t 50], none, 6, 3⟩, ⟨some 52, .call 33, [.t 48, .t 51], none, 15, 4⟩, ⟨some 47, .mov, [.t 52], none, 31, 5⟩, ⟨some 53, .ext 0, [.t 47], none, 63, 6⟩, ⟨some 54, .ext 1, [.t 47], none, 63, 7⟩, ⟨some 55, .ext 2, [.t 47], none, 63, 8⟩, ⟨some 16, .mov, [.t 53], none, 127, 9⟩, ⟨some 17, .mov, [.t 54], none, 767, 10⟩, ⟨some 18, .mov, [.t 55], none, 2047, 11⟩]) (.seq (.reg 0 none [o 57 (.load true 7) [.t 3] 0, m 58 (.t 16) 1, m 59 (.t 2) 2, m 60 (.t 13) 3, m 61 (.t 15) 4, o 62 (.call 178) [.t 57, .t 58, .t 59, .t 60, .t 61] 5, m 56 (.t 62) 6, o 63 (.ext 0) [.t 56] 7, o 64 (.ext 1) [.t 56] 8, o 65 (.ext 2) [.t 56] 9, ⟨none, .store 7, [.t 3, .t 63], none, 0, 10⟩, m 13 (.t 64) 11, m 11 (.t 65) 12]) (.seq (.reg 0 none [m 66 (.t 11) 0, o 67 (.bin .neq) [.t 66, .c (ci 0)] 1]) (.cond (.t 67) (.seq (.reg 0 none [o 68 (.load true 7) [.t 12] 0, m 69 (.t 11) 1, ⟨none, .store 7, [.t 6, .t 68], none, 0, 2⟩, m 7 (.c (ci 0)) 3, m 8 (.t 69) 4]) .ret) .skip)))))) (.reg 0 none [o 70 (.bin .add) [.t 42, .c (ci 1)] 0, m 42 (.t 70) 1]))))
def c97_s1 : C := (.seq (.reg 0 none [o 71 (.load true 7) [.t 3] 0, m 72 (.t 13) 1, ⟨none, .store 7, [.t 6, .t 71], none, 0, 2⟩, m 7 (.t 72) 3, m 8 (.c (ci 0)) 4]) .ret)
def c97_1 : C := (.seq (.reg 2 none [o 3 (.box 0) [.t 0] 0, o 6 (.alloc 1 z14) [] 1, m 7 (.c (ci 0)) 2, m 8 (.c (ci 0)) 3]) (.seq (.reg 0 none [o 20 (.load true 7) [.t 3] 0, m 21 (.t 1) 1, o 22 (.call 33) [.t 20, .t 21] 2, m 19 (.t 22) 3, o 23 (.ext 0) [.t 19] 4, o 24 (.ext 1) [.t 19] 5, o 25 (.ext 2) [.t 19] 6, m 9 (.t 23) 7, m 10 (.t 24) 8, m 11 (.t 25) 9]) (.seq (.blk 0 (.seq (.reg 0 none [m 27 (.t 11) 0, o 28 (.bin .neq) [.t 27, .c (ci 0)] 1, m 26 (.t 28) 2]) (.cond (.t 26) (.seq (.reg 0 none [o 29 (.load true 7) [.t 3] 0, m 30 (.t 11) 1, ⟨none, .store 7, [.t 6, .t 29], none, 0, 2⟩, m 7 (.c (ci 0)) 3, m 8 (.t 30) 4]) .ret) (.seq (.reg 0 (some ⟨true, [], 73⟩) [o 32 (.load true 7) [.t 3] 0, m 33 (.t 9) 1, ⟨some 34, .ix 2, [.t 33, .c (ci 0)], none, 2, 2⟩, ⟨some 35, .load true 2, [.t 34], none, 6, 3⟩, ⟨some 36, .call 77, [.t 32, .t 35], none, 15, 4⟩, ⟨some 37, .un .not, [.t 36], none, 31, 5⟩, ⟨some 31, .mov, [.t 37], none, 63, 6⟩]) (.cond (.t 31) (.seq (.reg 0 none [o 38 (.load true 7) [.t 3] 0, ⟨none, .store 7, [.t 6, .t 38], none, 0, 1⟩, m 7 (.c (ci 0)) 2, m 8 (.c (ci 4)) 3]) .ret) .skip))))) (.seq (.reg 1 none [o 39 (.load true 7) [.t 3] 0, o 12 (.alloc 0 z14) [] 1, ⟨none, .store 7, [.t 12, .t 39], none, 0, 2⟩, m 13 (.c (ci 1)) 3]) (.seq (.seq (.reg 0 none [m 40 (.t 1) 0, o 41 (.len 1) [.t 40] 1, m 42 (.c (ci 0)) 2]) (.blk 1 (.loop 18889465939175162261582 false c97_2))) c97_s1)))))
def c97 : Fn := { fid := 97, np := 3, ntmps := 73, body := (.jn 9444732965739290427399 c97_1), res := [.cell 6 true 7, .tmp 7, .tmp 8] }
def d97_1 (c : Cx) (t0 t1 t2 : V) (H : List Blk) : X := stepK c.pc c.ic c.n (.jn 9444732965739290427399 c97_1) (cn 0 73 [(0, t0), (1, t1), (2, t2)]) H (kTop c97.res)
def k97_1 (c : Cx) : KT := thenK (stepK c.pc c.ic c.n c97_s1) (kTop c97.res)
def k97_2 (c : Cx) : KT := blkK 1 (k97_1 c)
def d97_2 (c : Cx) (m n2 : Nat) (t1 t2 t3 t6 t12 t13 t40 t41 t42 : V) (H : List Blk) : X := jnK (loopsK (stepK c.pc c.ic c.n c97_2) 18889465939175162261582 false n2 m) (cn 0 73 [(1, t1), (2, t2), (3, t3), (6, t6), (12, t12), (13, t13), (40, t40), (41, t41), (42, t42)]) H (k97_2 c) 18889465939175162261582
def b97_2 (c : Cx) (r2 : F9) (n2 : Nat) (t1 t2 t3 t6 t12 t13 t40 t41 t42 : V) (H : List Blk) : X := p (aBin .lss t42 t41) fun x1 => condK x1 ((fun (t1 t2 t3 t6 t12 t13 t40 t41 t42 : V) (H : L) (c : Cx) (r2 : F9) => p (aIx 1 t40 t42) fun x2 => (aLoad false 1 x2).go H fun x3 H => (aLoad true 7 t3).go H fun x4 H => (aSub 1 false true false t1 [t42]).go H fun x5 H => (fun (t1 t2 t3 t6 t12 t13 t40 t41 t42 x3 x4 x5 : V) (H : L) (c : Cx) (r2 : F9) => p (aCall c.pc 33 [x4, x5]) fun x6 => p (aExt 0 x6) fun x7 => p (aExt 1 x6) fun x8 => p (aExt 2 x6) fun x9 => (aLoad true 7 t3).go H fun x10 H => p (aCall c.pc 178 [x10, x7, t2, t13, x3]) fun x11 => (fun (t1 t2 t3 t6 t12 t40 t41 t42 x11 : V) (H : L) (r2 : F9) => p (aExt 0 x11) fun x12 => p (aExt 1 x11) fun x13 => p (aExt 2 x11) fun x14 => (aStore 7 t3 x12).go H fun _ H => p (aBin .neq x14 (ci 0)) fun x15 => condK x15 ((aLoad true 7 t12).go H fun x16 H => (aStore 7 t6 x16).go H fun _ H => bnd (loadV true 7 t6 H) fun x17 => some (.tup [x17, (ci 0), x14], H)) (p (aBin .add t42 (ci 1)) fun x18 => r2 t1 t2 t3 t6 t12 x13 t40 t41 x18 H)) t1 t2 t3 t6 t12 t40 t41 t42 x11 H r2) t1 t2 t3 t6 t12 t13 t40 t41 t42 x3 x4 x5 H c r2) t1 t2 t3 t6 t12 t13 t40 t41 t42 H c r2) ((aLoad true 7 t3).go H fun x19 H => (aStore 7 t6 x19).go H fun _ H => bnd (loadV true 7 t6 H) fun x20 => some (.tup [x20, t13, (ci 0)], H))
def j97_2 (c : Cx) : Nat → Nat → F9 := recN (fun _ _ _ _ _ _ _ _ _ _ _ => none) fun ih n2 => b97_2 c (ih n2) n2
theorem o97_2 (c : Cx) : d97_2 c = j97_2 c := by
  unfold j97_2
  refine recN_ok (by kernel_rfl) fun m => funext fun n2 => ?_
  funext t1 t2 t3 t6 t12 t13 t40 t41 t42 H
  refine Eq.trans (jnK_eq 18889465939175162261582 _ _ H _) ?_
  kernel_rfl
def b97_1 (c : Cx) (j2 : Nat → Nat → F9) (t0 t1 t2 : V) (H : List Blk) : X := newK 2 H fun q H => (aBox (q + 0) t0).go H fun x1 H => (aAlloc (q + 1) z14).go H fun x2 H => (aLoad true 7 x1).go H fun x3 H => (fun (t1 t2 x1 x2 x3 : V) (H : L) (c : Cx) (j2 : Nat → Nat → F9) => p (aCall c.pc 33 [x3, t1]) fun x4 => p (aExt 0 x4) fun x5 => p (aExt 1 x4) fun x6 => p (aExt 2 x4) fun x7 => p (aBin .neq x7 (ci 0)) fun x8 => condK x8 ((aLoad true 7 x1).go H fun x9 H => (aStore 7 x2 x9).go H fun _ H => bnd (loadV true 7 x2 H) fun x10 => some (.tup [x10, (ci 0), x7], H)) ((fun (t1 t2 x1 x2 x5 : V) (H : L) (c : Cx) (j2 : Nat → Nat → F9) => (aLoad true 7 x1).go H fun x11 H => (fun (t1 t2 x1 x2 x5 x11 : V) (H : L) (c : Cx) (j2 : Nat → Nat → F9) => p (aIx 2 x5 (ci 0)) fun x12 => (aLoad true 2 x12).go H fun x13 H => p (aCall c.pc 77 [x11, x13]) fun x14 => p (aUn .not x14) fun x15 => condK x15 ((aLoad true 7 x1).go H fun x16 H => (aStore 7 x2 x16).go H fun _ H => bnd (loadV true 7 x2 H) fun x17 => some (.tup [x17, (ci 0), (ci 4)], H)) ((fun (t1 t2 x1 x2 : V) (H : L) (c : Cx) (j2 : Nat → Nat → F9) => newK 1 H fun q H => (aLoad true 7 x1).go H fun x18 H => (aAlloc (q + 0) z14).go H fun x19 H => (aStore 7 x19 x18).go H fun _ H => (aLen 1 t1).go H fun x20 H => j2 c.n H.length t1 t2 x1 x2 x19 (ci 1) t1 x20 (ci 0) H) t1 t2 x1 x2 H c j2)) t1 t2 x1 x2 x5 x11 H c j2) t1 t2 x1 x2 x5 H c j2)) t1 t2 x1 x2 x3 H c j2
def j97_1 (c : Cx) : F3 := b97_1 c (j97_2 c)
theorem o97_1 (c : Cx) : d97_1 c = j97_1 c := by
  unfold j97_1; rw [← o97_2]
  funext t0 t1 t2 H
  refine Eq.trans (stepK_jn c.pc c.ic c.n _ H _ 9444732965739290427399 c97_1) ?_
  kernel_rfl
def b97_0 (c : Cx) (j1 : F3) (t0 t1 t2 : V) (H : List Blk) : X := j1 t0 t1 t2 H
def s97 (c : Cx) (args : List V) (H : List Blk) : X := argsK 3 args (b97_0 c (j97_1 c) (getT args 0) (getT args 1) (getT args 2) H)
theorem e97 (pc ic n args H) : runK pc ic n c97 args H = s97 ⟨pc, ic, n⟩ args H := by
  unfold s97; rw [← o97_1]
  kernel_rfl
def L97 : Leaf := ⟨c97, fun pc ic n => s97 ⟨pc, ic, n⟩, e97⟩
theorem kk97 : chkFn Go.Proofs.Tryz.prog ET 97 c97 = true := by kernel_rfl

def c98 : Fn := { fid := 98, np := 3, ntmps := 12, body := (.seq (.reg 1 none [o 3 (.box 0) [.t 0] 0, m 6 (.c cf) 1]) (.seq (.reg 0 (some ⟨true, [], 12⟩) [o 7 (.load true 4) [.t 3] 0, m 8 (.t 1) 1, m 9 (.t 2) 2, ⟨some 10, .call 100, [.t 9], none, 4, 3⟩, ⟨some 11, .call 179, [.t 7, .t 8, .t 10], none, 15, 4⟩, ⟨some 6, .mov, [.t 11], none, 31, 5⟩]) .ret)), res := [.tmp 6] }
def b98_0 (c : Cx) (t0 t1 t2 : V) (H : List Blk) : X := newK 1 H fun q H => (aBox (q + 0) t0).go H fun x1 H => (aLoad true 4 x1).go H fun x2 H => p (aCall c.pc 100 [t2]) fun x3 => p (aCall c.pc 179 [x2, t1, x3]) fun x4 => some (x4, H)
def s98 (c : Cx) (args : List V) (H : List Blk) : X := argsK 3 args (b98_0 c (getT args 0) (getT args 1) (getT args 2) H)
theorem e98 (pc ic n args H) : runK pc ic n c98 args H = s98 ⟨pc, ic, n⟩ args H := by
  unfold s98
  kernel_rfl
def L98 : Leaf := ⟨c98, fun pc ic n => s98 ⟨pc, ic, n⟩, e98⟩
theorem kk98 : chkFn Go.Proofs.Tryz.prog ET 98 c98 = true := by kernel_rfl

def c99_1 : C := (.seq (.reg 2 none [o 4 (.box 0) [.t 0] 0, o 8 (.alloc 1 z14) [] 1, m 9 (.c (ci 0)) 2]) (.seq (.reg 1 none [o 14 (.fld 2) [.t 4] 0, o 15 (.load false 1) [.t 14] 1, m 16 (.t 1) 2, o 17 (.ix 4) [.t 15, .t 16] 3, o 18 (.load true 4) [.t 17] 4, m 19 (.t 2) 5, m 20 (.t 3) 6, o 21 (.build z1 [(1, 1)]) [.c (ci 1)] 7, o 22 (.call 89) [.t 18, .t 19, .t 20, .t 21] 8, m 13 (.t 22) 9, o 23 (.ext 0) [.t 13] 10, o 24 (.ext 1) [.t 13] 11, o 25 (.ext 2) [.t 13] 12, o 10 (.alloc 0 z0) [] 13, ⟨none, .store 4, [.t 10, .t 23], none, 0, 14⟩, m 11 (.t 24) 15, m 12 (.t 25) 16]) (.seq (.seq (.reg 0 none [m 26 (.t 12) 0, o 27 (.bin .neq) [.t 26, .c (ci 0)] 1]) (.cond (.t 27) (.seq (.reg 0 none [o 28 (.load true 7) [.t 4] 0, m 29 (.t 12) 1, ⟨none, .store 7, [.t 8, .t 28], none, 0, 2⟩, m 9 (.t 29) 3]) .ret) .skip)) (.seq (.reg 0 none [o 30 (.load true 7) [.t 4] 0, m 31 (.t 1) 1, o 32 (.load true 4) [.t 10] 2, o 33 (.call 107) [.t 30, .t 31, .t 32] 3, ⟨none, .store 7, [.t 8, .t 33], none, 0, 4⟩, m 9 (.c (ci 0)) 5]) .ret))))
def c99 : Fn := { fid := 99, np := 4, ntmps := 34, body := (.jn 17179869199 c99_1), res := [.cell 8 true 7, .tmp 9] }
def d99_1 (c : Cx) (t0 t1 t2 t3 : V) (H : List Blk) : X := stepK c.pc c.ic c.n (.jn 17179869199 c99_1) (cn 0 34 [(0, t0), (1, t1), (2, t2), (3, t3)]) H (kTop c99.res)
def b99_1 (c : Cx) (t0 t1 t2 t3 : V) (H : List Blk) : X := newK 2 H fun q H => (aBox (q + 0) t0).go H fun x1 H => (aAlloc (q + 1) z14).go H fun x2 H => newK 1 H fun q H => p (aFld 2 x1) fun x3 => (aLoad false 1 x3).go H fun x4 H => p (aIx 4 x4 t1) fun x5 => (fun (t1 t2 t3 x1 x2 x5 : V) (q : Nat) (H : L) (c : Cx) => (aLoad true 4 x5).go H fun x6 H => p (aBuild z1 [(1, 1)] [(ci 1)]) fun x7 => p (aCall c.pc 89 [x6, t2, t3, x7]) fun x8 => p (aExt 0 x8) fun x9 => (fun (t1 x1 x2 x8 x9 : V) (q : Nat) (H : L) (c : Cx) => p (aExt 1 x8) fun x10 => p (aExt 2 x8) fun x11 => (aAlloc (q + 0) z0).go H fun x12 H => (aStore 4 x12 x9).go H fun _ H => p (aBin .neq x11 (ci 0)) fun x13 => condK x13 ((aLoad true 7 x1).go H fun x14 H => (aStore 7 x2 x14).go H fun _ H => bnd (loadV true 7 x2 H) fun x15 => some (.tup [x15, x11], H)) ((fun (t1 x1 x2 x12 : V) (H : L) (c : Cx) => (aLoad true 7 x1).go H fun x16 H => (aLoad true 4 x12).go H fun x17 H => p (aCall c.pc 107 [x16, t1, x17]) fun x18 => (aStore 7 x2 x18).go H fun _ H => bnd (loadV true 7 x2 H) fun x19 => some (.tup [x19, (ci 0)], H)) t1 x1 x2 x12 H c)) t1 x1 x2 x8 x9 q H c) t1 t2 t3 x1 x2 x5 q H c
def j99_1 (c : Cx) : F4 := b99_1 c
theorem o99_1 (c : Cx) : d99_1 c = j99_1 c := by
  unfold j99_1
  funext t0 t1 t2 t3 H
  refine Eq.trans (stepK_jn c.pc c.ic c.n _ H _ 17179869199 c99_1) ?_
  kernel_rfl
def b99_0 (c : Cx) (j1 : F4) (t0 t1 t2 t3 : V) (H : List Blk) : X := j1 t0 t1 t2 t3 H
def s99 (c : Cx) (args : List V) (H : List Blk) : X := argsK 4 args (b99_0 c (j99_1 c) (getT args 0) (getT args 1) (getT args 2) (getT args 3) H)
theorem e99 (pc ic n args H) : runK pc ic n c99 args H = s99 ⟨pc, ic, n⟩ args H := by
  unfold s99; rw [← o99_1]
  kernel_rfl
def L99 : Leaf := ⟨c99, fun pc ic n => s99 ⟨pc, ic, n⟩, e99⟩
theorem kk99 : chkFn Go.Proofs.Tryz.prog ET 99 c99 = true := by kernel_rfl

def c100 : Fn := { fid := 100, np := 1, ntmps := 5, body := (.seq (.reg 0 none [m 2 (.c (.d (.str []))) 0]) (.seq (.reg 0 none [m 3 (.t 0) 0, o 4 (.bin .add) [.c (.d (.str [46, 119, 104, 46])), .t 3] 1, m 2 (.t 4) 2]) .ret)), res := [.tmp 2] }
def b100_0 (c : Cx) (t0 : V) (H : List Blk) : X := p (aBin .add (.d (.str [46, 119, 104, 46])) t0) fun x1 => some (x1, H)
def s100 (c : Cx) (args : List V) (H : List Blk) : X := argsK 1 args (b100_0 c (getT args 0) H)
theorem e100 (pc ic n args H) : runK pc ic n c100 args H = s100 ⟨pc, ic, n⟩ args H := by
  unfold s100
  kernel_rfl
def L100 : Leaf := ⟨c100, fun pc ic n => s100 ⟨pc, ic, n⟩, e100⟩
theorem kk100 : chkFn Go.Proofs.Tryz.prog ET 100 c100 = true := by kernel_rfl

def c101_4 : C := (.seq (.reg 0 (some ⟨true, [0, 4, 1, 2, 3, 5], 100⟩) [m 77 (.t 8) 0, o 78 (.fld 0) [.t 11] 1, ⟨some 79, .load false 1, [.t 78], none, 2, 2⟩, ⟨some 80, .bin .sub, [.t 79, .c (ci 1)], none, 6, 3⟩, ⟨some 6, .mov, [.t 77], none, 1, 4⟩, ⟨some 7, .mov, [.t 80], none, 31, 5⟩]) .ret)
def c101_s1 : C := (.seq (.reg 1 none [m 81 (.t 8) 0, o 82 (.load true 2) [.t 16] 1, o 83 (.bsl 2 z13 1 [0]) [.t 82] 2, o 84 (.app 0 2 16) [.t 81, .t 83] 3, m 8 (.t 84) 4]) (.seq (.reg 0 none [o 85 (.load true 7) [.t 3] 0, o 86 (.load true 2) [.t 16] 1, o 87 (.call 180) [.t 85, .t 86] 2]) (.cond (.t 87) (.seq (.reg 0 (some ⟨true, [0, 3, 1, 2, 4], 100⟩) [m 88 (.t 8) 0, o 89 (.fld 0) [.t 11] 1, ⟨some 90, .load false 1, [.t 89], none, 2, 2⟩, ⟨some 6, .mov, [.t 88], none, 1, 3⟩, ⟨some 7, .mov, [.t 90], none, 15, 4⟩]) .ret) .skip)))
def c101_5 : C := (.seq (.reg 0 none [o 91 (.load true 7) [.t 3] 0, o 92 (.load true 2) [.t 11] 1, m 93 (.t 2) 2, o 94 (.call 181) [.t 91, .t 92, .t 93] 3]) (.cond (.t 94) (.seq (.reg 0 (some ⟨true, [0, 3, 1, 2, 4], 100⟩) [m 95 (.t 8) 0, o 96 (.fld 0) [.t 11] 1, ⟨some 97, .load false 1, [.t 96], none, 2, 2⟩, ⟨some 6, .mov, [.t 95], none, 1, 3⟩, ⟨some 7, .mov, [.t 97], none, 15, 4⟩]) .ret) .skip))
def c101_3 : C := (.seq (.reg 0 none [o 46 (.load true 8) [.t 12] 0, m 47 (.t 2) 1, o 48 (.call 44) [.t 46, .t 47] 2, m 45 (.t 48) 3, o 49 (.ext 0) [.t 45] 4, o 50 (.ext 1) [.t 45] 5, m 14 (.t 49) 6, m 15 (.t 50) 7]) (.seq (.seq (.reg 0 none [m 51 (.t 15) 0]) (.cond (.t 51) (.seq (.reg 1 none [o 52 (.fld 0) [.t 11] 0, o 53 (.load false 1) [.t 52] 1, m 54 (.t 14) 2, o 55 (.build [(ci 0), (ci 0)] [(0, 1), (1, 1)]) [.t 53, .t 54] 3, o 16 (.alloc 0 [(ci 0), (ci 0)]) [] 4, ⟨none, .store 2, [.t 16, .t 55], none, 0, 5⟩]) (.seq (.reg 1 none [o 57 (.fld 2) [.t 3] 0, o 58 (.load false 1) [.t 57] 1, o 59 (.fld 0) [.t 11] 2, o 60 (.load false 1) [.t 59] 3, o 61 (.ix 4) [.t 58, .t 60] 4, o 62 (.load true 4) [.t 61] 5, m 63 (.t 14) 6, o 64 (.call 16) [.t 62, .t 63] 7, m 56 (.t 64) 8, o 65 (.ext 0) [.t 56] 9, o 66 (.ext 1) [.t 56] 10, o 17 (.alloc 0 z1) [] 11, ⟨none, .store 8, [.t 17, .t 65], none, 0, 12⟩, m 18 (.t 66) 13]) (.seq (.seq (.reg 0 none [o 67 (.fld 1) [.t 17] 0, o 68 (.load false 1) [.t 67] 1, o 69 (.bin .neq) [.t 68, .c (ci 2)] 2]) (.cond (.t 69) (.seq (.seq (.reg 0 none [m 70 (.t 8) 0, o 71 (.len 1) [.t 70] 1, o 72 (.bin .eql) [.t 71, .c (ci 0)] 2]) (.cond (.t 72) (.reg 1 none [m 73 (.t 8) 0, o 74 (.load true 2) [.t 16] 1, o 75 (.bsl 2 z13 1 [0]) [.t 74] 2, o 76 (.app 0 2 16) [.t 73, .t 75] 3, m 8 (.t 76) 4]) .skip)) (.jn 5070602400912917605986812823808 c101_4)) .skip)) c101_s1))) .skip)) (.jn 6338253001141147007483516030734 c101_5)))
def c101_s2 : C := (.reg 0 none [m 27 (.t 10) 0, o 28 (.bin .add) [.t 27, .c (ci 1)] 1, m 10 (.t 28) 2])
def l101_0 : List O := [o 34 (.fld 2) [.t 3] 0, ⟨some 35, .load false 1, [.t 34], none, 1, 1⟩, o 36 (.fld 0) [.t 11] 2, ⟨some 37, .load false 1, [.t 36], none, 4, 3⟩, ⟨some 38, .ix 4, [.t 35, .t 37], none, 15, 4⟩, ⟨some 39, .load true 4, [.t 38], none, 31, 5⟩, o 40 (.fld 1) [.t 11] 6, ⟨some 41, .load false 1, [.t 40], none, 64, 7⟩, ⟨some 42, .call 16, [.t 39, .t 41], none, 255, 8⟩, ⟨some 33, .mov, [.t 42], none, 511, 9⟩, ⟨some 43, .ext 0, [.t 33], none, 1023, 10⟩, ⟨some 44, .ext 1, [.t 33], none, 1023, 11⟩, o 12 (.alloc 0 z1) [] 12, ⟨none, .store 8, [.t 12, .t 43], none, 6143, 13⟩, ⟨some 13, .mov, [.t 44], none, 16383, 14⟩]
def c101_2 : C := (.seq (.seq (.reg 0 none [m 23 (.t 10) 0, m 24 (.t 1) 1, o 25 (.len 1) [.t 24] 2, o 26 (.bin .lss) [.t 23, .t 25] 3]) (.cond (.t 26) .skip (.exit 0))) (.seq (.blk 1 (.seq (.reg 1 none [m 29 (.t 1) 0, m 30 (.t 10) 1, o 31 (.ix 2) [.t 29, .t 30] 2, o 32 (.load true 2) [.t 31] 3, o 11 (.alloc 0 [(ci 0), (ci 0)]) [] 4, ⟨none, .store 2, [.t 11, .t 32], none, 0, 5⟩]) (.seq (.reg 1 (some ⟨false, [0, 1, 2, 3, 4, 5, 6, 7, 8, 9, 10, 12, 13, 11, 14], 100⟩) l101_0) (.jn 3802951800684688204490109624078 c101_3)))) c101_s2))
def c101_s3 : C := (.seq (.reg 0 none [m 98 (.t 8) 0, m 99 (.t 9) 1, m 6 (.t 98) 2, m 7 (.t 99) 3]) .ret)
def c101_1 : C := (.seq (.reg 1 none [o 3 (.box 0) [.t 0] 0, m 6 (.c .nilS) 1, m 7 (.c (ci 0)) 2]) (.seq (.reg 0 none [m 8 (.c .nilS) 0]) (.seq (.reg 0 none [o 19 (.fld 2) [.t 3] 0, o 20 (.load false 1) [.t 19] 1, o 21 (.len 1) [.t 20] 2, o 22 (.bin .sub) [.t 21, .c (ci 1)] 3, m 9 (.t 22) 4]) (.seq (.seq (.reg 0 none [m 10 (.c (ci 0)) 0]) (.blk 0 (.loop 2535301200456458802993406412558 false c101_2))) c101_s3))))
def c101 : Fn := { fid := 101, np := 3, ntmps := 100, body := (.jn 1267650600228229401496703205383 c101_1), res := [.tmp 6, .tmp 7] }
def d101_1 (c : Cx) (t0 t1 t2 : V) (H : List Blk) : X := stepK c.pc c.ic c.n (.jn 1267650600228229401496703205383 c101_1) (cn 0 100 [(0, t0), (1, t1), (2, t2)]) H (kTop c101.res)
def k101_1 (c : Cx) : KT := thenK (stepK c.pc c.ic c.n c101_s3) (kTop c101.res)
def k101_2 (c : Cx) : KT := blkK 0 (k101_1 c)
def d101_2 (c : Cx) (m n2 : Nat) (t1 t2 t3 t8 t9 t10 : V) (H : List Blk) : X := jnK (loopsK (stepK c.pc c.ic c.n c101_2) 2535301200456458802993406412558 false n2 m) (cn 0 100 [(1, t1), (2, t2), (3, t3), (8, t8), (9, t9), (10, t10)]) H (k101_2 c) 2535301200456458802993406412558
def k101_3 (c : Cx) (m2 n2 : Nat) : KT := thenK (fun ts H k => jnK (loopsK (stepK c.pc c.ic c.n c101_2) 2535301200456458802993406412558 false n2 m2) (maskT 2535301200456458802993406412558 0 ts) H k 2535301200456458802993406412558) (k101_2 c)
def k101_4 (c : Cx) (m2 n2 : Nat) : KT := thenK (stepK c.pc c.ic c.n c101_s2) (k101_3 c m2 n2)
def k101_5 (c : Cx) (m2 n2 : Nat) : KT := blkK 1 (k101_4 c m2 n2)
def d101_3 (c : Cx) (m2 n2 : Nat) (t1 t2 t3 t8 t9 t10 t11 t12 : V) (H : List Blk) : X := stepK c.pc c.ic c.n (.jn 3802951800684688204490109624078 c101_3) (cn 0 100 [(1, t1), (2, t2), (3, t3), (8, t8), (9, t9), (10, t10), (11, t11), (12, t12)]) H (k101_5 c m2 n2)
def k101_6 (c : Cx) (m2 n2 : Nat) : KT := thenK (stepK c.pc c.ic c.n (.jn 6338253001141147007483516030734 c101_5)) (k101_5 c m2 n2)
def k101_7 (c : Cx) (m2 n2 : Nat) : KT := thenK (stepK c.pc c.ic c.n c101_s1) (k101_6 c m2 n2)
def d101_4 (c : Cx) (m2 n2 : Nat) (t8 t11 : V) (H : List Blk) : X := stepK c.pc c.ic c.n (.jn 5070602400912917605986812823808 c101_4) (cn 0 100 [(8, t8), (11, t11)]) H (k101_7 c m2 n2)
def b101_4 (c : Cx) (t8 t11 : V) (H : List Blk) : X := p (aFld 0 t11) fun x1 => (aLoad false 1 x1).go H fun x2 H => p (aBin .sub x2 (ci 1)) fun x3 => some (.tup [t8, x3], H)
def j101_4 (c : Cx) (r2 : F6) : F2 := b101_4 c
theorem o101_4 (c : Cx) (m2 n2 : Nat) : d101_4 c m2 n2 = j101_4 c (d101_2 c m2 n2) := by
  unfold j101_4
  funext t8 t11 H
  refine Eq.trans (stepK_jn c.pc c.ic c.n _ H _ 5070602400912917605986812823808 c101_4) ?_
  kernel_rfl
def d101_5 (c : Cx) (m2 n2 : Nat) (t1 t2 t3 t8 t9 t10 t11 : V) (H : List Blk) : X := stepK c.pc c.ic c.n (.jn 6338253001141147007483516030734 c101_5) (cn 0 100 [(1, t1), (2, t2), (3, t3), (8, t8), (9, t9), (10, t10), (11, t11)]) H (k101_5 c m2 n2)
def b101_5 (c : Cx) (r2 : F6) (t1 t2 t3 t8 t9 t10 t11 : V) (H : List Blk) : X := (aLoad true 7 t3).go H fun x1 H => (aLoad true 2 t11).go H fun x2 H => p (aCall c.pc 181 [x1, x2, t2]) fun x3 => condK x3 (p (aFld 0 t11) fun x4 => (aLoad false 1 x4).go H fun x5 H => some (.tup [t8, x5], H)) (p (aBin .add t10 (ci 1)) fun x6 => r2 t1 t2 t3 t8 t9 x6 H)
def j101_5 (c : Cx) (r2 : F6) : F7 := b101_5 c r2
theorem o101_5 (c : Cx) (m2 n2 : Nat) : d101_5 c m2 n2 = j101_5 c (d101_2 c m2 n2) := by
  unfold j101_5
  funext t1 t2 t3 t8 t9 t10 t11 H
  refine Eq.trans (stepK_jn c.pc c.ic c.n _ H _ 6338253001141147007483516030734 c101_5) ?_
  kernel_rfl
def b101_3 (c : Cx) (j4 : F2) (j5 : F7) (t1 t2 t3 t8 t9 t10 t11 t12 : V) (H : List Blk) : X := (aLoad true 8 t12).go H fun x1 H => p (aCall c.pc 44 [x1, t2]) fun x2 => p (aExt 0 x2) fun x3 => p (aExt 1 x2) fun x4 => condK x4 ((fun (t1 t2 t3 t8 t9 t10 t11 x3 : V) (H : L) (c : Cx) (j4 : F2) (j5 : F7) => newK 1 H fun q H => p (aFld 0 t11) fun x5 => (fun (t1 t2 t3 t8 t9 t10 t11 x3 x5 : V) (q : Nat) (H : L) (c : Cx) (j4 : F2) (j5 : F7) => (aLoad false 1 x5).go H fun x6 H => p (aBuild [(ci 0), (ci 0)] [(0, 1), (1, 1)] [x6, x3]) fun x7 => (aAlloc (q + 0) [(ci 0), (ci 0)]).go H fun x8 H => (aStore 2 x8 x7).go H fun _ H => newK 1 H fun q H => p (aFld 2 t3) fun x9 => (aLoad false 1 x9).go H fun x10 H => p (aFld 0 t11) fun x11 => (fun (t1 t2 t3 t8 t9 t10 t11 x3 x8 x10 x11 : V) (q : Nat) (H : L) (c : Cx) (j4 : F2) (j5 : F7) => (aLoad false 1 x11).go H fun x12 H => p (aIx 4 x10 x12) fun x13 => (aLoad true 4 x13).go H fun x14 H => p (aCall c.pc 16 [x14, x3]) fun x15 => (fun (t1 t2 t3 t8 t9 t10 t11 x8 x15 : V) (q : Nat) (H : L) (c : Cx) (j4 : F2) (j5 : F7) => p (aExt 0 x15) fun x16 => p (aExt 1 x15) fun x17 => (aAlloc (q + 0) z1).go H fun x18 H => (aStore 8 x18 x16).go H fun _ H => p (aFld 1 x18) fun x19 => (aLoad false 1 x19).go H fun x20 H => p (aBin .neq x20 (ci 2)) fun x21 => condK x21 ((fun (t8 t11 x8 : V) (H : L) (j4 : F2) => (aLen 1 t8).go H fun x22 H => p (aBin .eql x22 (ci 0)) fun x23 => condK x23 (newK 1 H fun q H => (aLoad true 2 x8).go H fun x24 H => p (aBsl 2 z13 1 [0] [x24]) fun x25 => (aApp (q + 0) 2 16 t8 x25).go H fun x26 H => j4 x26 t11 H) (j4 t8 t11 H)) t8 t11 x8 H j4) ((fun (t1 t2 t3 t8 t9 t10 t11 x8 : V) (H : L) (c : Cx) (j5 : F7) => newK 1 H fun q H => (aLoad true 2 x8).go H fun x27 H => p (aBsl 2 z13 1 [0] [x27]) fun x28 => (aApp (q + 0) 2 16 t8 x28).go H fun x29 H => (aLoad true 7 t3).go H fun x30 H => (aLoad true 2 x8).go H fun x31 H => p (aCall c.pc 180 [x30, x31]) fun x32 => condK x32 (p (aFld 0 t11) fun x33 => (aLoad false 1 x33).go H fun x34 H => some (.tup [x29, x34], H)) (j5 t1 t2 t3 x29 t9 t10 t11 H)) t1 t2 t3 t8 t9 t10 t11 x8 H c j5)) t1 t2 t3 t8 t9 t10 t11 x8 x15 q H c j4 j5) t1 t2 t3 t8 t9 t10 t11 x3 x8 x10 x11 q H c j4 j5) t1 t2 t3 t8 t9 t10 t11 x3 x5 q H c j4 j5) t1 t2 t3 t8 t9 t10 t11 x3 H c j4 j5) (j5 t1 t2 t3 t8 t9 t10 t11 H)
def j101_3 (c : Cx) (r2 : F6) : F8 := b101_3 c (j101_4 c r2) (j101_5 c r2)
theorem o101_3 (c : Cx) (m2 n2 : Nat) : d101_3 c m2 n2 = j101_3 c (d101_2 c m2 n2) := by
  unfold j101_3; rw [← o101_4, ← o101_5]
  funext t1 t2 t3 t8 t9 t10 t11 t12 H
  refine Eq.trans (stepK_jn c.pc c.ic c.n _ H _ 3802951800684688204490109624078 c101_3) ?_
  kernel_rfl
def b101_2 (c : Cx) (j3 : F8) (n2 : Nat) (t1 t2 t3 t8 t9 t10 : V) (H : List Blk) : X := (aLen 1 t1).go H fun x1 H => p (aBin .lss t10 x1) fun x2 => condK x2 ((fun (t1 t2 t3 t8 t9 t10 x1 x2 : V) (H : L) (c : Cx) (j3 : F8) => newK 1 H fun q H => (fun (t1 t2 t3 t8 t9 t10 x1 x2 : V) (q : Nat) (H : L) (c : Cx) (j3 : F8) => p (aIx 2 t1 t10) fun x3 => (aLoad true 2 x3).go H fun x4 H => (aAlloc (q + 0) [(ci 0), (ci 0)]).go H fun x5 H => (aStore 2 x5 x4).go H fun _ H => newK 1 H fun q H => drawnK c.pc c.ic l101_0 q (cn 0 100 [(1, t1), (2, t2), (3, t3), (8, t8), (9, t9), (10, t10), (11, x5), (23, t10), (24, t1), (25, x1), (26, x2), (29, t1), (30, t10), (31, x3), (32, x4)]) H fun ts5 H => j3 (getT ts5 1) (getT ts5 2) (getT ts5 3) (getT ts5 8) (getT ts5 9) (getT ts5 10) (getT ts5 11) (getT ts5 12) H) t1 t2 t3 t8 t9 t10 x1 x2 q H c j3) t1 t2 t3 t8 t9 t10 x1 x2 H c j3) (some (.tup [t8, t9], H))
def j101_2 (c : Cx) : Nat → Nat → F6 := recN (fun _ _ _ _ _ _ _ _ => none) fun ih n2 => b101_2 c (j101_3 c (ih n2)) n2
theorem o101_2 (c : Cx) : d101_2 c = j101_2 c := by
  unfold j101_2
  refine recN_ok (by kernel_rfl) fun m => funext fun n2 => ?_
  simp only [← o101_3]
  funext t1 t2 t3 t8 t9 t10 H
  refine Eq.trans (jnK_eq 2535301200456458802993406412558 _ _ H _) ?_
  kernel_rfl
def b101_1 (c : Cx) (j2 : Nat → Nat → F6) (t0 t1 t2 : V) (H : List Blk) : X := newK 1 H fun q H => (aBox (q + 0) t0).go H fun x1 H => p (aFld 2 x1) fun x2 => (aLoad false 1 x2).go H fun x3 H => (aLen 1 x3).go H fun x4 H => p (aBin .sub x4 (ci 1)) fun x5 => j2 c.n H.length t1 t2 x1 .nilS x5 (ci 0) H
def j101_1 (c : Cx) : F3 := b101_1 c (j101_2 c)
theorem o101_1 (c : Cx) : d101_1 c = j101_1 c := by
  unfold j101_1; rw [← o101_2]
  funext t0 t1 t2 H
  refine Eq.trans (stepK_jn c.pc c.ic c.n _ H _ 1267650600228229401496703205383 c101_1) ?_
  kernel_rfl
def b101_0 (c : Cx) (j1 : F3) (t0 t1 t2 : V) (H : List Blk) : X := j1 t0 t1 t2 H
def s101 (c : Cx) (args : List V) (H : List Blk) : X := argsK 3 args (b101_0 c (j101_1 c) (getT args 0) (getT args 1) (getT args 2) H)
theorem e101 (pc ic n args H) : runK pc ic n c101 args H = s101 ⟨pc, ic, n⟩ args H := by
  unfold s101; rw [← o101_1]
  kernel_rfl
def L101 : Leaf := ⟨c101, fun pc ic n => s101 ⟨pc, ic, n⟩, e101⟩
theorem kk101 : chkFn Go.Proofs.Tryz.prog ET 101 c101 = true := by kernel_rfl

def l102_0 : List O := [o 15 (.fld 1) [.t 3] 0, ⟨some 16, .load false 1, [.t 15], none, 1, 1⟩, o 17 (.fld 1) [.t 1] 2, ⟨some 18, .load false 1, [.t 17], none, 4, 3⟩, m 19 (.t 4) 4, ⟨some 20, .ix 2, [.t 18, .t 19], none, 28, 5⟩, ⟨some 21, .fld 0, [.t 20], none, 60, 6⟩, ⟨some 22, .load false 1, [.t 21], none, 124, 7⟩, o 23 (.bsl 1 [(.int .u8 0)] 0 []) [] 8, o 24 (.fld 1) [.t 1] 9, ⟨some 25, .load false 1, [.t 24], none, 512, 10⟩, m 26 (.t 4) 11, ⟨some 27, .ix 2, [.t 25, .t 26], none, 3584, 12⟩, ⟨some 28, .fld 1, [.t 27], none, 7680, 13⟩, ⟨some 29, .load false 1, [.t 28], none, 15872, 14⟩, ⟨some 30, .app 0 1 1, [.t 23, .t 29], none, 32512, 15⟩, ⟨some 31, .build [(ci 0), .nilS] [(0, 1), (1, 1)], [.t 22, .t 30], none, 65532, 16⟩, ⟨some 32, .bsl 2 z4 1 [0], [.t 31], none, 131068, 17⟩, ⟨some 33, .app 1 2 32, [.t 16, .t 32], none, 262143, 18⟩, ⟨some 34, .fld 1, [.t 3], none, 524287, 19⟩, ⟨none, .store 1, [.t 34, .t 33], none, 1048575, 20⟩]
def c102_2 : C := (.seq (.seq (.reg 0 none [m 8 (.t 4) 0, o 9 (.fld 1) [.t 1] 1, o 10 (.load false 1) [.t 9] 2, o 11 (.len 1) [.t 10] 3, o 12 (.bin .lss) [.t 8, .t 11] 4]) (.cond (.t 12) .skip (.exit 0))) (.seq (.blk 1 (.reg 2 (some ⟨false, [], 36⟩) l102_0)) (.reg 0 none [m 13 (.t 4) 0, o 14 (.bin .add) [.t 13, .c (ci 1)] 1, m 4 (.t 14) 2])))
def c102_s1 : C := (.seq (.reg 0 none [o 35 (.load true 2) [.t 3] 0, ⟨none, .store 2, [.t 2, .t 35], none, 0, 1⟩]) .ret)
def c102_1 : C := (.seq (.reg 2 none [o 1 (.box 0) [.t 0] 0, o 2 (.alloc 1 [(ci 0), .nilS]) [] 1]) (.seq (.reg 1 none [o 5 (.fld 0) [.t 1] 0, o 6 (.load false 1) [.t 5] 1, o 7 (.build [(ci 0), .nilS] [(0, 1)]) [.t 6] 2, o 3 (.alloc 0 [(ci 0), .nilS]) [] 3, ⟨none, .store 2, [.t 3, .t 7], none, 0, 4⟩]) (.seq (.seq (.reg 0 none [m 4 (.c (ci 0)) 0]) (.blk 0 (.loop 137438953502 false c102_2))) c102_s1)))
def c102 : Fn := { fid := 102, np := 1, ntmps := 36, body := (.jn 68719476737 c102_1), res := [.cell 2 true 2] }
def d102_1 (c : Cx) (t0 : V) (H : List Blk) : X := stepK c.pc c.ic c.n (.jn 68719476737 c102_1) (cn 0 36 [(0, t0)]) H (kTop c102.res)
def k102_1 (c : Cx) : KT := thenK (stepK c.pc c.ic c.n c102_s1) (kTop c102.res)
def k102_2 (c : Cx) : KT := blkK 0 (k102_1 c)
def d102_2 (c : Cx) (m n2 : Nat) (t1 t2 t3 t4 : V) (H : List Blk) : X := jnK (loopsK (stepK c.pc c.ic c.n c102_2) 137438953502 false n2 m) (cn 0 36 [(1, t1), (2, t2), (3, t3), (4, t4)]) H (k102_2 c) 137438953502
def b102_2 (c : Cx) (r2 : F4) (n2 : Nat) (t1 t2 t3 t4 : V) (H : List Blk) : X := p (aFld 1 t1) fun x1 => (aLoad false 1 x1).go H fun x2 H => (aLen 1 x2).go H fun x3 H => p (aBin .lss t4 x3) fun x4 => condK x4 ((fun (t1 t2 t3 t4 x1 x2 x3 x4 : V) (H : L) (c : Cx) (r2 : F4) => newK 2 H fun q H => drawnK c.pc c.ic l102_0 q (cn 0 36 [(1, t1), (2, t2), (3, t3), (4, t4), (8, t4), (9, x1), (10, x2), (11, x3), (12, x4)]) H fun ts4 H => p (aBin .add (getT ts4 4) (ci 1)) fun x6 => r2 (getT ts4 1) (getT ts4 2) (getT ts4 3) x6 H) t1 t2 t3 t4 x1 x2 x3 x4 H c r2) ((aLoad true 2 t3).go H fun x7 H => (aStore 2 t2 x7).go H fun _ H => bnd (loadV true 2 t2 H) fun x8 => some (x8, H))
def j102_2 (c : Cx) : Nat → Nat → F4 := recN (fun _ _ _ _ _ _ => none) fun ih n2 => b102_2 c (ih n2) n2
theorem o102_2 (c : Cx) : d102_2 c = j102_2 c := by
  unfold j102_2
  refine recN_ok (by kernel_rfl) fun m => funext fun n2 => ?_
  funext t1 t2 t3 t4 H
  refine Eq.trans (jnK_eq 137438953502 _ _ H _) ?_
  kernel_rfl
def b102_1 (c : Cx) (j2 : Nat → Nat → F4) (t0 : V) (H : List Blk) : X := newK 2 H fun q H => (aBox (q + 0) t0).go H fun x1 H => (aAlloc (q + 1) [(ci 0), .nilS]).go H fun x2 H => newK 1 H fun q H => p (aFld 0 x1) fun x3 => (fun (x1 x2 x3 : V) (q : Nat) (H : L) (c : Cx) (j2 : Nat → Nat → F4) => (aLoad false 1 x3).go H fun x4 H => p (aBuild [(ci 0), .nilS] [(0, 1)] [x4]) fun x5 => (aAlloc (q + 0) [(ci 0), .nilS]).go H fun x6 H => (aStore 2 x6 x5).go H fun _ H => j2 c.n H.length x1 x2 x6 (ci 0) H) x1 x2 x3 q H c j2
def j102_1 (c : Cx) : F1 := b102_1 c (j102_2 c)
theorem o102_1 (c : Cx) : d102_1 c = j102_1 c := by
  unfold j102_1; rw [← o102_2]
  funext t0 H
  refine Eq.trans (stepK_jn c.pc c.ic c.n _ H _ 68719476737 c102_1) ?_
  kernel_rfl
def b102_0 (c : Cx) (j1 : F1) (t0 : V) (H : List Blk) : X := j1 t0 H
def s102 (c : Cx) (args : List V) (H : List Blk) : X := argsK 1 args (b102_0 c (j102_1 c) (getT args 0) H)
theorem e102 (pc ic n args H) : runK pc ic n c102 args H = s102 ⟨pc, ic, n⟩ args H := by
  unfold s102; rw [← o102_1]
  kernel_rfl
def L102 : Leaf := ⟨c102, fun pc ic n => s102 ⟨pc, ic, n⟩, e102⟩
theorem kk102 : chkFn Go.Proofs.Tryz.prog ET 102 c102 = true := by kernel_rfl

def c103_2 : C := (.seq (.seq (.reg 0 (some ⟨true, [], 47⟩) [m 11 (.t 5) 0, o 12 (.fld 3) [.t 2] 1, ⟨some 13, .load false 1, [.t 12], none, 2, 2⟩, ⟨some 14, .len 1, [.t 13], none, 6, 3⟩, ⟨some 15, .bin .lss, [.t 11, .t 14], none, 15, 4⟩, ⟨some 16, .mov, [.t 15], none, 31, 5⟩, ⟨some 17, .fld 3, [.t 2], some (16, true), 63, 6⟩, ⟨some 18, .load false 1, [.t 17], some (16, true), 127, 7⟩, ⟨some 19, .mov, [.t 5], some (16, true), 63, 8⟩, ⟨some 20, .ix 8, [.t 18, .t 19], some (16, true), 511, 9⟩, ⟨some 21, .fld 0, [.t 20], some (16, true), 1023, 10⟩, ⟨some 22, .load false 1, [.t 21], some (16, true), 2047, 11⟩, ⟨some 23, .fld 0, [.t 3], some (16, true), 63, 12⟩, ⟨some 24, .load false 1, [.t 23], some (16, true), 4159, 13⟩, ⟨some 25, .bin .lss, [.t 22, .t 24], some (16, true), 16383, 14⟩, ⟨some 26, .pick, [.t 16, .t 25, .c cf], none, 32767, 15⟩]) (.cond (.t 26) .skip (.exit 0))) (.blk 1 (.reg 0 none [m 27 (.t 5) 0, o 28 (.bin .add) [.t 27, .c (ci 1)] 1, m 5 (.t 28) 2])))
def c103_3 : C := (.seq (.reg 1 none [m 39 (.t 6) 0, o 40 (.fld 3) [.t 2] 1, o 41 (.load false 1) [.t 40] 2, m 42 (.t 5) 3, o 43 (.sub 8 true false false) [.t 41, .t 42] 4, o 44 (.app 0 8 104) [.t 39, .t 43] 5, o 45 (.fld 3) [.t 2] 6, ⟨none, .store 1, [.t 45, .t 44], none, 0, 7⟩]) (.seq (.reg 0 none [o 46 (.load true 4) [.t 2] 0, ⟨none, .store 4, [.t 4, .t 46], none, 0, 1⟩]) .ret))
def l103_0 : List O := [o 29 (.bsl 8 z3 0 []) [] 0, o 30 (.fld 3) [.t 2] 1, ⟨some 31, .load false 1, [.t 30], none, 2, 2⟩, m 32 (.t 5) 3, ⟨some 33, .sub 8 false true false, [.t 31, .t 32], none, 14, 4⟩, ⟨some 34, .app 0 8 104, [.t 29, .t 33], none, 31, 5⟩, o 35 (.load true 8) [.t 3] 6, ⟨some 36, .call 49, [.t 35], none, 127, 7⟩, ⟨some 37, .bsl 8 z3 1 [0], [.t 36], none, 255, 8⟩, ⟨some 38, .app 1 8 104, [.t 34, .t 37], none, 511, 9⟩, ⟨some 6, .mov, [.t 38], none, 1023, 10⟩]
def c103_s1 : C := (.seq (.reg 2 (some ⟨false, [], 47⟩) l103_0) (.jn 422212465066100 c103_3))
def c103_1 : C := (.seq (.reg 3 none [o 2 (.box 0) [.t 0] 0, o 3 (.box 1) [.t 1] 1, o 4 (.alloc 2 z0) [] 2]) (.seq (.reg 0 none [o 7 (.load true 4) [.t 2] 0, o 8 (.fld 0) [.t 3] 1, o 9 (.load false 1) [.t 8] 2, o 10 (.call 182) [.t 7, .t 9] 3, ⟨none, .store 4, [.t 2, .t 10], none, 0, 4⟩]) (.seq (.reg 0 none [m 5 (.c (ci 0)) 0]) (.seq (.blk 0 (.loop 281474976710716 false c103_2)) c103_s1))))
def c103 : Fn := { fid := 103, np := 2, ntmps := 47, body := (.jn 140737488355331 c103_1), res := [.cell 4 true 4] }
def d103_1 (c : Cx) (t0 t1 : V) (H : List Blk) : X := stepK c.pc c.ic c.n (.jn 140737488355331 c103_1) (cn 0 47 [(0, t0), (1, t1)]) H (kTop c103.res)
def k103_1 (c : Cx) : KT := thenK (stepK c.pc c.ic c.n c103_s1) (kTop c103.res)
def k103_2 (c : Cx) : KT := blkK 0 (k103_1 c)
def d103_2 (c : Cx) (m n2 : Nat) (t2 t3 t4 t5 : V) (H : List Blk) : X := jnK (loopsK (stepK c.pc c.ic c.n c103_2) 281474976710716 false n2 m) (cn 0 47 [(2, t2), (3, t3), (4, t4), (5, t5)]) H (k103_2 c) 281474976710716
def d103_3 (c : Cx) (t2 t4 t5 t6 : V) (H : List Blk) : X := stepK c.pc c.ic c.n (.jn 422212465066100 c103_3) (cn 0 47 [(2, t2), (4, t4), (5, t5), (6, t6)]) H (kTop c103.res)
def b103_3 (c : Cx) (t2 t4 t5 t6 : V) (H : List Blk) : X := newK 1 H fun q H => p (aFld 3 t2) fun x1 => (aLoad false 1 x1).go H fun x2 H => (fun (t2 t4 t5 t6 x2 : V) (q : Nat) (H : L) => (aSub 8 true false false x2 [t5]).go H fun x3 H => (aApp (q + 0) 8 104 t6 x3).go H fun x4 H => p (aFld 3 t2) fun x5 => (aStore 1 x5 x4).go H fun _ H => (aLoad true 4 t2).go H fun x6 H => (aStore 4 t4 x6).go H fun _ H => bnd (loadV true 4 t4 H) fun x7 => some (x7, H)) t2 t4 t5 t6 x2 q H
def j103_3 (c : Cx) : F4 := b103_3 c
theorem o103_3 (c : Cx) : d103_3 c = j103_3 c := by
  unfold j103_3
  funext t2 t4 t5 t6 H
  refine Eq.trans (stepK_jn c.pc c.ic c.n _ H _ 422212465066100 c103_3) ?_
  kernel_rfl
def b103_2 (c : Cx) (r2 : F4) (j3 : F4) (n2 : Nat) (t2 t3 t4 t5 : V) (H : List Blk) : X := p (aFld 3 t2) fun x1 => (aLoad false 1 x1).go H fun x2 H => (fun (t2 t3 t4 t5 x1 x2 : V) (H : L) (c : Cx) (j3 : F4) (r2 : F4) => (aLen 1 x2).go H fun x3 H => p (aBin .lss t5 x3) fun x4 => guardK x4 true (fun k => (aFld 3 t2).go H k) H fun x5 H => guardK x4 true (fun k => (aLoad false 1 x5).go H k) H fun x6 H => (fun (t2 t3 t4 t5 x1 x2 x3 x4 x5 x6 : V) (H : L) (c : Cx) (j3 : F4) (r2 : F4) => guardK x4 true (fun k => (aMov t5).go H k) H fun x7 H => guardK x4 true (fun k => (aIx 8 x6 x7).go H k) H fun x8 H => guardK x4 true (fun k => (aFld 0 x8).go H k) H fun x9 H => guardK x4 true (fun k => (aLoad false 1 x9).go H k) H fun x10 H => (fun (t2 t3 t4 t5 x1 x2 x3 x4 x5 x6 x7 x8 x9 x10 : V) (H : L) (c : Cx) (j3 : F4) (r2 : F4) => guardK x4 true (fun k => (aFld 0 t3).go H k) H fun x11 H => guardK x4 true (fun k => (aLoad false 1 x11).go H k) H fun x12 H => guardK x4 true (fun k => (aBin .lss x10 x12).go H k) H fun x13 H => p (aPick x4 x13 cf) fun x14 => condK x14 (p (aBin .add t5 (ci 1)) fun x15 => r2 t2 t3 t4 x15 H) ((fun (t2 t3 t4 t5 x1 x2 x3 x4 x5 x6 x7 x8 x9 x10 x11 x12 x13 x14 : V) (H : L) (c : Cx) (j3 : F4) => newK 2 H fun q H => drawnK c.pc c.ic l103_0 q (cn 0 47 [(2, t2), (3, t3), (4, t4), (5, t5), (11, t5), (12, x1), (13, x2), (14, x3), (15, x4), (16, x4), (17, x5), (18, x6), (19, x7), (20, x8), (21, x9), (22, x10), (23, x11), (24, x12), (25, x13), (26, x14)]) H fun ts15 H => j3 (getT ts15 2) (getT ts15 4) (getT ts15 5) (getT ts15 6) H) t2 t3 t4 t5 x1 x2 x3 x4 x5 x6 x7 x8 x9 x10 x11 x12 x13 x14 H c j3)) t2 t3 t4 t5 x1 x2 x3 x4 x5 x6 x7 x8 x9 x10 H c j3 r2) t2 t3 t4 t5 x1 x2 x3 x4 x5 x6 H c j3 r2) t2 t3 t4 t5 x1 x2 H c j3 r2
def j103_2 (c : Cx) : Nat → Nat → F4 := recN (fun _ _ _ _ _ _ => none) fun ih n2 => b103_2 c (ih n2) (j103_3 c) n2
theorem o103_2 (c : Cx) : d103_2 c = j103_2 c := by
  unfold j103_2
  refine recN_ok (by kernel_rfl) fun m => funext fun n2 => ?_
  simp only [← o103_3]
  funext t2 t3 t4 t5 H
  refine Eq.trans (jnK_eq 281474976710716 _ _ H _) ?_
  kernel_rfl
def b103_1 (c : Cx) (j2 : Nat → Nat → F4) (t0 t1 : V) (H : List Blk) : X := newK 3 H fun q H => (aBox (q + 0) t0).go H fun x1 H => (aBox (q + 1) t1).go H fun x2 H => (aAlloc (q + 2) z0).go H fun x3 H => (aLoad true 4 x1).go H fun x4 H => (fun (x1 x2 x3 x4 : V) (H : L) (c : Cx) (j2 : Nat → Nat → F4) => p (aFld 0 x2) fun x5 => (aLoad false 1 x5).go H fun x6 H => p (aCall c.pc 182 [x4, x6]) fun x7 => (aStore 4 x1 x7).go H fun _ H => j2 c.n H.length x1 x2 x3 (ci 0) H) x1 x2 x3 x4 H c j2
def j103_1 (c : Cx) : F2 := b103_1 c (j103_2 c)
theorem o103_1 (c : Cx) : d103_1 c = j103_1 c := by
  unfold j103_1; rw [← o103_2]
  funext t0 t1 H
  refine Eq.trans (stepK_jn c.pc c.ic c.n _ H _ 140737488355331 c103_1) ?_
  kernel_rfl
def b103_0 (c : Cx) (j1 : F2) (t0 t1 : V) (H : List Blk) : X := j1 t0 t1 H
def s103 (c : Cx) (args : List V) (H : List Blk) : X := argsK 2 args (b103_0 c (j103_1 c) (getT args 0) (getT args 1) H)
theorem e103 (pc ic n args H) : runK pc ic n c103 args H = s103 ⟨pc, ic, n⟩ args H := by
  unfold s103; rw [← o103_1]
  kernel_rfl
def L103 : Leaf := ⟨c103, fun pc ic n => s103 ⟨pc, ic, n⟩, e103⟩
theorem kk103 : chkFn Go.Proofs.Tryz.prog ET 103 c103 = true := by kernel_rfl

def c104_4 : C := (.seq (.seq (.reg 0 none [m 35 (.t 9) 0, o 36 (.fld 7) [.t 7] 1, o 37 (.load false 1) [.t 36] 2, o 38 (.len 1) [.t 37] 3, o 39 (.bin .lss) [.t 35, .t 38] 4]) (.cond (.t 39) .skip (.exit 2))) (.seq (.blk 3 (.seq (.reg 0 none [o 42 (.fld 7) [.t 7] 0, o 43 (.load false 1) [.t 42] 1, m 44 (.t 9) 2, o 45 (.ix 2) [.t 43, .t 44] 3, o 46 (.fld 0) [.t 45] 4, o 47 (.load false 1) [.t 46] 5, m 10 (.t 47) 6]) (.seq (.reg 0 none [m 48 (.t 10) 0, o 49 (.call 183) [.t 48] 1, o 50 (.un .not) [.t 49] 2, m 51 (.t 50) 3, ⟨some 52, .load true 7, [.t 2], some (51, true), 0, 4⟩, ⟨some 53, .mov, [.t 1], some (51, true), 0, 5⟩, ⟨some 54, .mov, [.t 10], some (51, true), 0, 6⟩, ⟨some 55, .call 47, [.t 52, .t 53, .t 54], some (51, true), 0, 7⟩, ⟨some 56, .len 1, [.t 55], some (51, true), 0, 8⟩, ⟨some 57, .bin .gtr, [.t 56, .c (ci 0)], some (51, true), 0, 9⟩, o 58 .pick [.t 51, .t 57, .c cf] 10]) (.cond (.t 58) (.reg 0 none [m 59 (.t 5) 0, m 60 (.t 10) 1, o 61 (.call 184) [.t 59, .t 60] 2, m 5 (.t 61) 3]) .skip)))) (.reg 0 none [m 40 (.t 9) 0, o 41 (.bin .add) [.t 40, .c (ci 1)] 1, m 9 (.t 41) 2])))
def c104_3 : C := (.seq (.reg 0 none [m 9 (.c (ci 0)) 0]) (.blk 2 (.loop 36893488147419103974 false c104_4)))
def c104_s1 : C := (.reg 0 none [m 15 (.t 6) 0, o 16 (.bin .add) [.t 15, .c (ci 1)] 1, m 6 (.t 16) 2])
def l104_0 : List O := [o 18 (.fld 2) [.t 2] 0, ⟨some 19, .load false 1, [.t 18], none, 1, 1⟩, m 20 (.t 1) 2, m 21 (.t 6) 3, ⟨some 22, .ix 2, [.t 20, .t 21], none, 12, 4⟩, ⟨some 23, .fld 0, [.t 22], none, 28, 5⟩, ⟨some 24, .load false 1, [.t 23], none, 60, 6⟩, ⟨some 25, .ix 4, [.t 19, .t 24], none, 127, 7⟩, ⟨some 26, .load true 4, [.t 25], none, 255, 8⟩, m 27 (.t 1) 9, m 28 (.t 6) 10, ⟨some 29, .ix 2, [.t 27, .t 28], none, 1536, 11⟩, ⟨some 30, .fld 1, [.t 29], none, 3584, 12⟩, ⟨some 31, .load false 1, [.t 30], none, 7680, 13⟩, ⟨some 32, .call 16, [.t 26, .t 31], none, 16383, 14⟩, ⟨some 17, .mov, [.t 32], none, 32767, 15⟩, ⟨some 33, .ext 0, [.t 17], none, 65535, 16⟩, ⟨some 34, .ext 1, [.t 17], none, 65535, 17⟩, o 7 (.alloc 0 z1) [] 18, ⟨none, .store 8, [.t 7, .t 33], none, 393215, 19⟩, ⟨some 8, .mov, [.t 34], none, 1048575, 20⟩]
def c104_2 : C := (.seq (.seq (.reg 0 none [m 11 (.t 6) 0, m 12 (.t 1) 1, o 13 (.len 1) [.t 12] 2, o 14 (.bin .lss) [.t 11, .t 13] 3]) (.cond (.t 14) .skip (.exit 0))) (.seq (.blk 1 (.seq (.reg 1 (some ⟨false, [0, 1, 2, 3, 4, 5, 6, 7, 8, 9, 10, 11, 12, 13, 14, 15, 16, 18, 19, 17, 20], 63⟩) l104_0) (.jn 27670116110564327654 c104_3))) c104_s1))
def c104_s2 : C := (.seq (.reg 0 none [m 62 (.t 5) 0, m 4 (.t 62) 1]) .ret)
def c104_1 : C := (.seq (.reg 1 none [o 2 (.box 0) [.t 0] 0, m 4 (.c .nilS) 1]) (.seq (.reg 0 none [m 5 (.c .nilS) 0]) (.seq (.seq (.reg 0 none [m 6 (.c (ci 0)) 0]) (.blk 0 (.loop 18446744073709551718 true c104_2))) c104_s2)))
def c104 : Fn := { fid := 104, np := 2, ntmps := 63, body := (.jn 9223372036854775811 c104_1), res := [.tmp 4] }
def d104_1 (c : Cx) (t0 t1 : V) (H : List Blk) : X := stepK c.pc c.ic c.n (.jn 9223372036854775811 c104_1) (cn 0 63 [(0, t0), (1, t1)]) H (kTop c104.res)
def k104_1 (c : Cx) : KT := thenK (stepK c.pc c.ic c.n c104_s2) (kTop c104.res)
def k104_2 (c : Cx) : KT := blkK 0 (k104_1 c)
def d104_2 (c : Cx) (m n2 : Nat) (t1 t2 t5 t6 : V) (H : List Blk) : X := jnK (loopsK (stepK c.pc c.ic c.n c104_2) 18446744073709551718 true n2 m) (cn 0 63 [(1, t1), (2, t2), (5, t5), (6, t6)]) H (k104_2 c) 18446744073709551718
def k104_3 (c : Cx) (m2 n2 : Nat) : KT := thenK (fun ts H k => jnK (loopsK (stepK c.pc c.ic c.n c104_2) 18446744073709551718 true n2 m2) (maskT 18446744073709551718 0 ts) H k 18446744073709551718) (k104_2 c)
def k104_4 (c : Cx) (m2 n2 : Nat) : KT := thenK (stepK c.pc c.ic c.n c104_s1) (k104_3 c m2 n2)
def k104_5 (c : Cx) (m2 n2 : Nat) : KT := blkK 1 (k104_4 c m2 n2)
def d104_3 (c : Cx) (m2 n2 : Nat) (t1 t2 t5 t6 t7 : V) (H : List Blk) : X := stepK c.pc c.ic c.n (.jn 27670116110564327654 c104_3) (cn 0 63 [(1, t1), (2, t2), (5, t5), (6, t6), (7, t7)]) H (k104_5 c m2 n2)
def k104_6 (c : Cx) (m2 n2 : Nat) : KT := blkK 2 (k104_5 c m2 n2)
def d104_4 (c : Cx) (m2 n2 : Nat) (m n4 : Nat) (t1 t2 t5 t6 t7 t9 : V) (H : List Blk) : X := jnK (loopsK (stepK c.pc c.ic c.n c104_4) 36893488147419103974 false n4 m) (cn 0 63 [(1, t1), (2, t2), (5, t5), (6, t6), (7, t7), (9, t9)]) H (k104_6 c m2 n2) 36893488147419103974
def b104_4 (c : Cx) (r2 : F4) (r4 : F6) (n4 : Nat) (t1 t2 t5 t6 t7 t9 : V) (H : List Blk) : X := p (aFld 7 t7) fun x1 => (aLoad false 1 x1).go H fun x2 H => (aLen 1 x2).go H fun x3 H => p (aBin .lss t9 x3) fun x4 => condK x4 ((fun (t1 t2 t5 t6 t7 t9 : V) (H : L) (c : Cx) (r4 : F6) => p (aFld 7 t7) fun x5 => (fun (t1 t2 t5 t6 t7 t9 x5 : V) (H : L) (c : Cx) (r4 : F6) => (aLoad false 1 x5).go H fun x6 H => p (aIx 2 x6 t9) fun x7 => p (aFld 0 x7) fun x8 => (aLoad false 1 x8).go H fun x9 H => p (aCall c.pc 183 [x9]) fun x10 => (fun (t1 t2 t5 t6 t7 t9 x9 x10 : V) (H : L) (c : Cx) (r4 : F6) => p (aUn .not x10) fun x11 => guardK x11 true (fun k => (aLoad true 7 t2).go H k) H fun x12 H => guardK x11 true (fun k => (aMov t1).go H k) H fun x13 H => guardK x11 true (fun k => (aMov x9).go H k) H fun x14 H => (fun (t1 t2 t5 t6 t7 t9 x9 x11 x12 x13 x14 : V) (H : L) (c : Cx) (r4 : F6) => guardK x11 true (fun k => (aCall c.pc 47 [x12, x13, x14]).go H k) H fun x15 H => guardK x11 true (fun k => (aLen 1 x15).go H k) H fun x16 H => guardK x11 true (fun k => (aBin .gtr x16 (ci 0)).go H k) H fun x17 H => p (aPick x11 x17 cf) fun x18 => condK x18 (p (aCall c.pc 184 [t5, x9]) fun x19 => p (aBin .add t9 (ci 1)) fun x20 => r4 t1 t2 x19 t6 t7 x20 H) (p (aBin .add t9 (ci 1)) fun x21 => r4 t1 t2 t5 t6 t7 x21 H)) t1 t2 t5 t6 t7 t9 x9 x11 x12 x13 x14 H c r4) t1 t2 t5 t6 t7 t9 x9 x10 H c r4) t1 t2 t5 t6 t7 t9 x5 H c r4) t1 t2 t5 t6 t7 t9 H c r4) (p (aBin .add t6 (ci 1)) fun x22 => r2 t1 t2 t5 x22 H)
def j104_4 (c : Cx) (r2 : F4) : Nat → Nat → F6 := recN (fun _ _ _ _ _ _ _ _ => none) fun ih n4 => b104_4 c r2 (ih n4) n4
theorem o104_4 (c : Cx) (m2 n2 : Nat) : d104_4 c m2 n2 = j104_4 c (d104_2 c m2 n2) := by
  unfold j104_4
  refine recN_ok (by kernel_rfl) fun m => funext fun n4 => ?_
  funext t1 t2 t5 t6 t7 t9 H
  refine Eq.trans (jnK_eq 36893488147419103974 _ _ H _) ?_
  kernel_rfl
def b104_3 (c : Cx) (j4 : Nat → Nat → F6) (t1 t2 t5 t6 t7 : V) (H : List Blk) : X := j4 c.n H.length t1 t2 t5 t6 t7 (ci 0) H
def j104_3 (c : Cx) (r2 : F4) : F5 := b104_3 c (j104_4 c r2)
theorem o104_3 (c : Cx) (m2 n2 : Nat) : d104_3 c m2 n2 = j104_3 c (d104_2 c m2 n2) := by
  unfold j104_3; rw [← o104_4]
  funext t1 t2 t5 t6 t7 H
  refine Eq.trans (stepK_jn c.pc c.ic c.n _ H _ 27670116110564327654 c104_3) ?_
  kernel_rfl
def b104_2 (c : Cx) (j3 : F5) (n2 : Nat) (t1 t2 t5 t6 : V) (H : List Blk) : X := bnd (trimF true n2 [t1, t2, t5, t6] H) fun H => (aLen 1 t1).go H fun x1 H => p (aBin .lss t6 x1) fun x2 => condK x2 ((fun (t1 t2 t5 t6 x1 x2 : V) (H : L) (c : Cx) (j3 : F5) => newK 1 H fun q H => drawnK c.pc c.ic l104_0 q (cn 0 63 [(1, t1), (2, t2), (5, t5), (6, t6), (11, t6), (12, t1), (13, x1), (14, x2)]) H fun ts2 H => j3 (getT ts2 1) (getT ts2 2) (getT ts2 5) (getT ts2 6) (getT ts2 7) H) t1 t2 t5 t6 x1 x2 H c j3) (some (t5, H))
def j104_2 (c : Cx) : Nat → Nat → F4 := recN (fun _ _ _ _ _ _ => none) fun ih n2 => b104_2 c (j104_3 c (ih n2)) n2
theorem o104_2 (c : Cx) : d104_2 c = j104_2 c := by
  unfold j104_2
  refine recN_ok (by kernel_rfl) fun m => funext fun n2 => ?_
  simp only [← o104_3]
  funext t1 t2 t5 t6 H
  refine Eq.trans (jnK_eq 18446744073709551718 _ _ H _) ?_
  kernel_rfl
def b104_1 (c : Cx) (j2 : Nat → Nat → F4) (t0 t1 : V) (H : List Blk) : X := newK 1 H fun q H => (aBox (q + 0) t0).go H fun x1 H => j2 c.n H.length t1 x1 .nilS (ci 0) H
def j104_1 (c : Cx) : F2 := b104_1 c (j104_2 c)
theorem o104_1 (c : Cx) : d104_1 c = j104_1 c := by
  unfold j104_1; rw [← o104_2]
  funext t0 t1 H
  refine Eq.trans (stepK_jn c.pc c.ic c.n _ H _ 9223372036854775811 c104_1) ?_
  kernel_rfl
def b104_0 (c : Cx) (j1 : F2) (t0 t1 : V) (H : List Blk) : X := j1 t0 t1 H
def s104 (c : Cx) (args : List V) (H : List Blk) : X := argsK 2 args (b104_0 c (j104_1 c) (getT args 0) (getT args 1) H)
theorem e104 (pc ic n args H) : runK pc ic n c104 args H = s104 ⟨pc, ic, n⟩ args H := by
  unfold s104; rw [← o104_1]
  kernel_rfl
def L104 : Leaf := ⟨c104, fun pc ic n => s104 ⟨pc, ic, n⟩, e104⟩
theorem kk104 : chkFn Go.Proofs.Tryz.prog ET 104 c104 = true := by kernel_rfl

def c105_2 : C := (.seq (.seq (.reg 0 none [m 12 (.t 7) 0, o 13 (.fld 7) [.t 3] 1, o 14 (.load false 1) [.t 13] 2, o 15 (.len 1) [.t 14] 3, o 16 (.bin .lss) [.t 12, .t 15] 4, m 17 (.t 16) 5, ⟨some 18, .fld 7, [.t 3], some (17, true), 0, 6⟩, ⟨some 19, .load false 1, [.t 18], some (17, true), 0, 7⟩, ⟨some 20, .mov, [.t 7], some (17, true), 0, 8⟩, ⟨some 21, .ix 2, [.t 19, .t 20], some (17, true), 0, 9⟩, ⟨some 22, .fld 0, [.t 21], some (17, true), 0, 10⟩, ⟨some 23, .load false 1, [.t 22], some (17, true), 0, 11⟩, ⟨some 24, .mov, [.t 1], some (17, true), 0, 12⟩, ⟨some 25, .bin .lss, [.t 23, .t 24], some (17, true), 0, 13⟩, o 26 .pick [.t 17, .t 25, .c cf] 14]) (.cond (.t 26) .skip (.exit 0))) (.blk 1 (.reg 0 none [m 27 (.t 7) 0, o 28 (.bin .add) [.t 27, .c (ci 1)] 1, m 7 (.t 28) 2])))
def c105_s1 : C := (.seq (.reg 2 none [o 29 (.bsl 2 z5 0 []) [] 0, o 30 (.fld 7) [.t 3] 1, o 31 (.load false 1) [.t 30] 2, m 32 (.t 7) 3, o 33 (.sub 2 false true false) [.t 31, .t 32] 4, o 34 (.app 0 2 24) [.t 29, .t 33] 5, m 35 (.t 1) 6, m 36 (.t 2) 7, o 37 (.build z6 [(0, 1), (1, 1)]) [.t 35, .t 36] 8, o 38 (.bsl 2 z5 1 [0]) [.t 37] 9, o 39 (.app 1 2 24) [.t 34, .t 38] 10, m 8 (.t 39) 11]) (.seq (.reg 1 none [m 40 (.t 8) 0, o 41 (.fld 7) [.t 3] 1, o 42 (.load false 1) [.t 41] 2, m 43 (.t 7) 3, o 44 (.sub 2 true false false) [.t 42, .t 43] 4, o 45 (.app 0 2 24) [.t 40, .t 44] 5, o 46 (.fld 7) [.t 3] 6, ⟨none, .store 1, [.t 46, .t 45], none, 0, 7⟩]) (.seq (.reg 0 none [o 47 (.load true 8) [.t 3] 0, ⟨none, .store 8, [.t 6, .t 47], none, 0, 1⟩]) .ret)))
def c105_1 : C := (.seq (.reg 2 none [o 3 (.box 0) [.t 0] 0, o 6 (.alloc 1 z1) [] 1]) (.seq (.reg 0 none [o 9 (.load true 8) [.t 3] 0, m 10 (.t 1) 1, o 11 (.call 185) [.t 9, .t 10] 2, ⟨none, .store 8, [.t 3, .t 11], none, 0, 3⟩]) (.seq (.reg 0 none [m 7 (.c (ci 0)) 0]) (.seq (.blk 0 (.loop 562949953421518 false c105_2)) c105_s1))))
def c105 : Fn := { fid := 105, np := 3, ntmps := 48, body := (.jn 281474976710663 c105_1), res := [.cell 6 true 8] }
def d105_1 (c : Cx) (t0 t1 t2 : V) (H : List Blk) : X := stepK c.pc c.ic c.n (.jn 281474976710663 c105_1) (cn 0 48 [(0, t0), (1, t1), (2, t2)]) H (kTop c105.res)
def k105_1 (c : Cx) : KT := thenK (stepK c.pc c.ic c.n c105_s1) (kTop c105.res)
def k105_2 (c : Cx) : KT := blkK 0 (k105_1 c)
def d105_2 (c : Cx) (m n2 : Nat) (t1 t2 t3 t6 t7 : V) (H : List Blk) : X := jnK (loopsK (stepK c.pc c.ic c.n c105_2) 562949953421518 false n2 m) (cn 0 48 [(1, t1), (2, t2), (3, t3), (6, t6), (7, t7)]) H (k105_2 c) 562949953421518
def b105_2 (c : Cx) (r2 : F5) (n2 : Nat) (t1 t2 t3 t6 t7 : V) (H : List Blk) : X := p (aFld 7 t3) fun x1 => (fun (t1 t2 t3 t6 t7 x1 : V) (H : L) (r2 : F5) => (aLoad false 1 x1).go H fun x2 H => (aLen 1 x2).go H fun x3 H => p (aBin .lss t7 x3) fun x4 => guardK x4 true (fun k => (aFld 7 t3).go H k) H fun x5 H => (fun (t1 t2 t3 t6 t7 x4 x5 : V) (H : L) (r2 : F5) => guardK x4 true (fun k => (aLoad false 1 x5).go H k) H fun x6 H => guardK x4 true (fun k => (aMov t7).go H k) H fun x7 H => guardK x4 true (fun k => (aIx 2 x6 x7).go H k) H fun x8 H => guardK x4 true (fun k => (aFld 0 x8).go H k) H fun x9 H => (fun (t1 t2 t3 t6 t7 x4 x9 : V) (H : L) (r2 : F5) => guardK x4 true (fun k => (aLoad false 1 x9).go H k) H fun x10 H => guardK x4 true (fun k => (aMov t1).go H k) H fun x11 H => guardK x4 true (fun k => (aBin .lss x10 x11).go H k) H fun x12 H => p (aPick x4 x12 cf) fun x13 => condK x13 (p (aBin .add t7 (ci 1)) fun x14 => r2 t1 t2 t3 t6 x14 H) ((fun (t1 t2 t3 t6 t7 : V) (H : L) => newK 2 H fun q H => (fun (t1 t2 t3 t6 t7 : V) (q : Nat) (H : L) => p (aBsl 2 z5 0 [] []) fun x15 => p (aFld 7 t3) fun x16 => (aLoad false 1 x16).go H fun x17 H => (aSub 2 false true false x17 [t7]).go H fun x18 H => (fun (t1 t2 t3 t6 t7 x15 x18 : V) (q : Nat) (H : L) => (aApp (q + 0) 2 24 x15 x18).go H fun x19 H => p (aBuild z6 [(0, 1), (1, 1)] [t1, t2]) fun x20 => p (aBsl 2 z5 1 [0] [x20]) fun x21 => (aApp (q + 1) 2 24 x19 x21).go H fun x22 H => newK 1 H fun q H => p (aFld 7 t3) fun x23 => (aLoad false 1 x23).go H fun x24 H => (fun (t3 t6 t7 x22 x24 : V) (q : Nat) (H : L) => (aSub 2 true false false x24 [t7]).go H fun x25 H => (aApp (q + 0) 2 24 x22 x25).go H fun x26 H => p (aFld 7 t3) fun x27 => (aStore 1 x27 x26).go H fun _ H => (aLoad true 8 t3).go H fun x28 H => (aStore 8 t6 x28).go H fun _ H => bnd (loadV true 8 t6 H) fun x29 => some (x29, H)) t3 t6 t7 x22 x24 q H) t1 t2 t3 t6 t7 x15 x18 q H) t1 t2 t3 t6 t7 q H) t1 t2 t3 t6 t7 H)) t1 t2 t3 t6 t7 x4 x9 H r2) t1 t2 t3 t6 t7 x4 x5 H r2) t1 t2 t3 t6 t7 x1 H r2
def j105_2 (c : Cx) : Nat → Nat → F5 := recN (fun _ _ _ _ _ _ _ => none) fun ih n2 => b105_2 c (ih n2) n2
theorem o105_2 (c : Cx) : d105_2 c = j105_2 c := by
  unfold j105_2
  refine recN_ok (by kernel_rfl) fun m => funext fun n2 => ?_
  funext t1 t2 t3 t6 t7 H
  refine Eq.trans (jnK_eq 562949953421518 _ _ H _) ?_
  kernel_rfl
def b105_1 (c : Cx) (j2 : Nat → Nat → F5) (t0 t1 t2 : V) (H : List Blk) : X := newK 2 H fun q H => (aBox (q + 0) t0).go H fun x1 H => (aAlloc (q + 1) z1).go H fun x2 H => (aLoad true 8 x1).go H fun x3 H => p (aCall c.pc 185 [x3, t1]) fun x4 => (aStore 8 x1 x4).go H fun _ H => j2 c.n H.length t1 t2 x1 x2 (ci 0) H
def j105_1 (c : Cx) : F3 := b105_1 c (j105_2 c)
theorem o105_1 (c : Cx) : d105_1 c = j105_1 c := by
  unfold j105_1; rw [← o105_2]
  funext t0 t1 t2 H
  refine Eq.trans (stepK_jn c.pc c.ic c.n _ H _ 281474976710663 c105_1) ?_
  kernel_rfl
def b105_0 (c : Cx) (j1 : F3) (t0 t1 t2 : V) (H : List Blk) : X := j1 t0 t1 t2 H
def s105 (c : Cx) (args : List V) (H : List Blk) : X := argsK 3 args (b105_0 c (j105_1 c) (getT args 0) (getT args 1) (getT args 2) H)
theorem e105 (pc ic n args H) : runK pc ic n c105 args H = s105 ⟨pc, ic, n⟩ args H := by
  unfold s105; rw [← o105_1]
  kernel_rfl
def L105 : Leaf := ⟨c105, fun pc ic n => s105 ⟨pc, ic, n⟩, e105⟩
theorem kk105 : chkFn Go.Proofs.Tryz.prog ET 105 c105 = true := by kernel_rfl

def c107_1 : C := (.seq (.reg 3 none [o 3 (.box 0) [.t 0] 0, o 5 (.box 1) [.t 2] 1, o 6 (.alloc 2 z14) [] 2]) (.seq (.reg 1 none [o 7 (.fld 2) [.t 3] 0, o 8 (.load false 1) [.t 7] 1, o 9 (.cloneA 0 4 48) [.t 8] 2, o 10 (.fld 2) [.t 3] 3, ⟨none, .store 1, [.t 10, .t 9], none, 0, 4⟩]) (.seq (.reg 0 none [o 11 (.fld 2) [.t 3] 0, o 12 (.load false 1) [.t 11] 1, m 13 (.t 1) 2, o 14 (.load true 4) [.t 5] 3, o 15 (.ix 4) [.t 12, .t 13] 4, ⟨none, .store 4, [.t 15, .t 14], none, 0, 5⟩]) (.seq (.reg 0 none [o 16 (.load true 7) [.t 3] 0, ⟨none, .store 7, [.t 6, .t 16], none, 0, 1⟩]) .ret))))
def c107 : Fn := { fid := 107, np := 3, ntmps := 17, body := (.jn 131079 c107_1), res := [.cell 6 true 7] }
def d107_1 (c : Cx) (t0 t1 t2 : V) (H : List Blk) : X := stepK c.pc c.ic c.n (.jn 131079 c107_1) (cn 0 17 [(0, t0), (1, t1), (2, t2)]) H (kTop c107.res)
def b107_1 (c : Cx) (t0 t1 t2 : V) (H : List Blk) : X := newK 3 H fun q H => (aBox (q + 0) t0).go H fun x1 H => (aBox (q + 1) t2).go H fun x2 H => (aAlloc (q + 2) z14).go H fun x3 H => newK 1 H fun q H => p (aFld 2 x1) fun x4 => (fun (t1 x1 x2 x3 x4 : V) (q : Nat) (H : L) => (aLoad false 1 x4).go H fun x5 H => (aCloneA (q + 0) 4 48 x5).go H fun x6 H => p (aFld 2 x1) fun x7 => (aStore 1 x7 x6).go H fun _ H => p (aFld 2 x1) fun x8 => (fun (t1 x1 x2 x3 x8 : V) (H : L) => (aLoad false 1 x8).go H fun x9 H => (aLoad true 4 x2).go H fun x10 H => p (aIx 4 x9 t1) fun x11 => (aStore 4 x11 x10).go H fun _ H => (aLoad true 7 x1).go H fun x12 H => (aStore 7 x3 x12).go H fun _ H => bnd (loadV true 7 x3 H) fun x13 => some (x13, H)) t1 x1 x2 x3 x8 H) t1 x1 x2 x3 x4 q H
def j107_1 (c : Cx) : F3 := b107_1 c
theorem o107_1 (c : Cx) : d107_1 c = j107_1 c := by
  unfold j107_1
  funext t0 t1 t2 H
  refine Eq.trans (stepK_jn c.pc c.ic c.n _ H _ 131079 c107_1) ?_
  kernel_rfl
def b107_0 (c : Cx) (j1 : F3) (t0 t1 t2 : V) (H : List Blk) : X := j1 t0 t1 t2 H
def s107 (c : Cx) (args : List V) (H : List Blk) : X := argsK 3 args (b107_0 c (j107_1 c) (getT args 0) (getT args 1) (getT args 2) H)
theorem e107 (pc ic n args H) : runK pc ic n c107 args H = s107 ⟨pc, ic, n⟩ args H := by
  unfold s107; rw [← o107_1]
  kernel_rfl
def L107 : Leaf := ⟨c107, fun pc ic n => s107 ⟨pc, ic, n⟩, e107⟩
theorem kk107 : chkFn Go.Proofs.Tryz.prog ET 107 c107 = true := by kernel_rfl

def c108_1 : C := (.seq (.reg 0 none [o 11 (.load true 4) [.t 1] 0, ⟨none, .store 4, [.t 2, .t 11], none, 0, 1⟩]) .ret)
def l108_0 : List O := [o 3 (.fld 1) [.t 1] 0, ⟨some 4, .load false 1, [.t 3], none, 1, 1⟩, ⟨some 5, .cloneA 0 3 24, [.t 4], none, 3, 2⟩, o 6 (.fld 2) [.t 1] 3, ⟨some 7, .load false 1, [.t 6], none, 8, 4⟩, ⟨some 8, .cloneA 1 3 24, [.t 7], none, 31, 5⟩, ⟨some 9, .fld 1, [.t 1], none, 31, 6⟩, ⟨none, .store 1, [.t 9, .t 5], none, 127, 7⟩, ⟨some 10, .fld 2, [.t 1], none, 255, 8⟩, ⟨none, .store 1, [.t 10, .t 8], none, 511, 9⟩]
def c108 : Fn := { fid := 108, np := 1, ntmps := 12, body := (.seq (.reg 2 none [o 1 (.box 0) [.t 0] 0, o 2 (.alloc 1 z10) [] 1]) (.seq (.reg 2 (some ⟨false, [0, 1, 2, 3, 4, 5, 6, 7, 8, 9], 12⟩) l108_0) (.jn 4102 c108_1))), res := [.cell 2 true 4] }
def d108_1 (c : Cx) (t1 t2 : V) (H : List Blk) : X := stepK c.pc c.ic c.n (.jn 4102 c108_1) (cn 0 12 [(1, t1), (2, t2)]) H (kTop c108.res)
def b108_1 (c : Cx) (t1 t2 : V) (H : List Blk) : X := (aLoad true 4 t1).go H fun x1 H => (aStore 4 t2 x1).go H fun _ H => bnd (loadV true 4 t2 H) fun x2 => some (x2, H)
def j108_1 (c : Cx) : F2 := b108_1 c
theorem o108_1 (c : Cx) : d108_1 c = j108_1 c := by
  unfold j108_1
  funext t1 t2 H
  refine Eq.trans (stepK_jn c.pc c.ic c.n _ H _ 4102 c108_1) ?_
  kernel_rfl
def b108_0 (c : Cx) (j1 : F2) (t0 : V) (H : List Blk) : X := newK 2 H fun q H => (aBox (q + 0) t0).go H fun x1 H => (aAlloc (q + 1) z10).go H fun x2 H => newK 2 H fun q H => drawnK c.pc c.ic l108_0 q (cn 0 12 [(0, t0), (1, x1), (2, x2)]) H fun ts2 H => j1 (getT ts2 1) (getT ts2 2) H
def s108 (c : Cx) (args : List V) (H : List Blk) : X := argsK 1 args (b108_0 c (j108_1 c) (getT args 0) H)
theorem e108 (pc ic n args H) : runK pc ic n c108 args H = s108 ⟨pc, ic, n⟩ args H := by
  unfold s108; rw [← o108_1]
  kernel_rfl
def L108 : Leaf := ⟨c108, fun pc ic n => s108 ⟨pc, ic, n⟩, e108⟩
theorem kk108 : chkFn Go.Proofs.Tryz.prog ET 108 c108 = true := by kernel_rfl

def c109 : Fn := { fid := 109, np := 2, ntmps := 8, body := (.seq (.reg 1 none [o 2 (.box 0) [.t 0] 0, m 3 (.c cf) 1]) (.seq (.reg 0 none [o 4 (.fld 2) [.t 2] 0, o 5 (.load false 1) [.t 4] 1, o 6 (.load false 1) [.t 1] 2, o 7 (.bin .eql) [.t 5, .t 6] 3, m 3 (.t 7) 4]) .ret)), res := [.tmp 3] }
def b109_0 (c : Cx) (t0 t1 : V) (H : List Blk) : X := newK 1 H fun q H => (aBox (q + 0) t0).go H fun x1 H => p (aFld 2 x1) fun x2 => (aLoad false 1 x2).go H fun x3 H => (aLoad false 1 t1).go H fun x4 H => p (aBin .eql x3 x4) fun x5 => some (x5, H)
def s109 (c : Cx) (args : List V) (H : List Blk) : X := argsK 2 args (b109_0 c (getT args 0) (getT args 1) H)
theorem e109 (pc ic n args H) : runK pc ic n c109 args H = s109 ⟨pc, ic, n⟩ args H := by
  unfold s109
  kernel_rfl
def L109 : Leaf := ⟨c109, fun pc ic n => s109 ⟨pc, ic, n⟩, e109⟩
theorem kk109 : chkFn Go.Proofs.Tryz.prog ET 109 c109 = true := by kernel_rfl

end
end Go.Vm.T
