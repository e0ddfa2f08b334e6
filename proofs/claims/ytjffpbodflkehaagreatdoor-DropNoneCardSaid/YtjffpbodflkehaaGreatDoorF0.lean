/- Functions of the program: the machine's code, plain Lean, their equality; that the code is the program's. Printed by a program of mine. -/
import Derived.Test.YtjffpbodflkehaaGreatDoorZ
import Derived.KernelRfl
set_option maxRecDepth 100000
set_option linter.unusedVariables false
namespace Go.Vm.T
open Go.Vm.I
noncomputable section
def c4_4 : C := (.seq (.reg 0 none [m 105 (.t 14) 0, o 106 (.bin .eql) [.t 105, .c (ci 0)] 1, m 107 (.t 106) 2, ⟨some 108, .mov, [.t 16], some (107, true), 0, 3⟩, o 109 .pick [.t 107, .t 108, .c cf] 4, m 110 (.t 109) 5, ⟨some 111, .mov, [.t 18], some (110, true), 0, 6⟩, ⟨some 112, .bin .eql, [.t 111, .c (ci 0)], some (110, true), 0, 7⟩, o 113 .pick [.t 110, .t 112, .c cf] 8, m 114 (.t 113) 9, ⟨some 115, .mov, [.t 20], some (114, true), 0, 10⟩, ⟨some 116, .un .not, [.t 115], some (114, true), 0, 11⟩, o 117 .pick [.t 114, .t 116, .c cf] 12, m 118 (.t 117) 13, ⟨some 119, .mov, [.t 23], some (118, true), 0, 14⟩, ⟨some 120, .bin .eql, [.t 119, .c (ci 2)], some (118, true), 0, 15⟩, o 121 .pick [.t 118, .t 120, .c cf] 16, m 122 (.t 121) 17, ⟨some 123, .mov, [.t 26], some (122, true), 0, 18⟩, ⟨some 124, .bin .eql, [.t 123, .c (ci 2)], some (122, true), 0, 19⟩, o 125 .pick [.t 122, .t 124, .c cf] 20, m 126 (.t 125) 21, ⟨some 127, .mov, [.t 28], some (126, true), 0, 22⟩, ⟨some 128, .un .not, [.t 127], some (126, true), 0, 23⟩, o 129 .pick [.t 126, .t 128, .c cf] 24, m 130 (.t 129) 25, ⟨some 131, .call 18, [], some (130, true), 0, 26⟩, o 132 .pick [.t 130, .t 131, .c cf] 27, m 4 (.t 132) 28]) .ret)
def c4_3 : C := (.seq (.reg 1 none [o 59 (.load true 7) [.t 5] 0, m 60 (.t 11) 1, o 61 (.call 11) [.t 59, .t 60] 2, m 58 (.t 61) 3, o 62 (.ext 0) [.t 58] 4, o 63 (.ext 1) [.t 58] 5, o 13 (.alloc 0 z14) [] 6, ⟨none, .store 7, [.t 13, .t 62], none, 0, 7⟩, m 14 (.t 63) 8]) (.seq (.reg 1 none [o 65 (.fld 3) [.t 13] 0, o 66 (.load true 4) [.t 65] 1, m 67 (.t 9) 2, o 68 (.call 15) [.t 66, .t 67] 3, m 64 (.t 68) 4, o 69 (.ext 0) [.t 64] 5, o 70 (.ext 1) [.t 64] 6, o 15 (.alloc 0 [(ci 0), (ci 0)]) [] 7, ⟨none, .store 2, [.t 15, .t 69], none, 0, 8⟩, m 16 (.t 70) 9]) (.seq (.reg 1 none [o 72 (.load true 7) [.t 13] 0, m 73 (.t 12) 1, o 74 (.call 11) [.t 72, .t 73] 2, m 71 (.t 74) 3, o 75 (.ext 0) [.t 71] 4, o 76 (.ext 1) [.t 71] 5, o 17 (.alloc 0 z14) [] 6, ⟨none, .store 7, [.t 17, .t 75], none, 0, 7⟩, m 18 (.t 76) 8]) (.seq (.reg 1 none [o 78 (.fld 3) [.t 17] 0, o 79 (.load true 4) [.t 78] 1, m 80 (.t 9) 2, o 81 (.call 15) [.t 79, .t 80] 3, m 77 (.t 81) 4, o 82 (.ext 0) [.t 77] 5, o 83 (.ext 1) [.t 77] 6, o 19 (.alloc 0 [(ci 0), (ci 0)]) [] 7, ⟨none, .store 2, [.t 19, .t 82], none, 0, 8⟩, m 20 (.t 83) 9]) (.seq (.reg 0 none [o 85 (.load true 7) [.t 17] 0, o 86 (.bsl 1 [(.str [])] 1 [0]) [.c (.d (.str [102]))] 1, o 87 (.call 13) [.t 85, .t 86] 2, m 84 (.t 87) 3, o 88 (.ext 0) [.t 84] 4, o 89 (.ext 1) [.t 84] 5, o 90 (.ext 2) [.t 84] 6, m 21 (.t 88) 7, m 22 (.t 89) 8, m 23 (.t 90) 9]) (.seq (.reg 0 none [o 92 (.load true 7) [.t 17] 0, o 93 (.bsl 1 [(.str [])] 2 [0, 1]) [.c (.d (.str [100])), .c (.d (.str [103]))] 1, o 94 (.call 13) [.t 92, .t 93] 2, m 91 (.t 94) 3, o 95 (.ext 0) [.t 91] 4, o 96 (.ext 1) [.t 91] 5, o 97 (.ext 2) [.t 91] 6, m 24 (.t 95) 7, m 25 (.t 96) 8, m 26 (.t 97) 9]) (.seq (.reg 1 none [o 99 (.load true 7) [.t 17] 0, o 100 (.call 20) [.t 99] 1, m 101 (.t 9) 2, o 102 (.call 16) [.t 100, .t 101] 3, m 98 (.t 102) 4, o 103 (.ext 0) [.t 98] 5, o 104 (.ext 1) [.t 98] 6, o 27 (.alloc 0 z1) [] 7, ⟨none, .store 8, [.t 27, .t 103], none, 0, 8⟩, m 28 (.t 104) 9]) (.jn 43556142965880123323311949751266676391936 c4_4))))))))
def c4_2 : C := (.seq (.reg 0 none [o 52 (.bsl 1 [(.str [])] 1 [0]) [.c (.d (.str [102]))] 0, o 53 (.bsl 1 [(.str [])] 2 [0, 1]) [.c (.d (.str [100])), .c (.d (.str [103]))] 1, m 11 (.t 52) 2, m 12 (.t 53) 3]) (.seq (.seq (.reg 0 none [m 54 (.t 1) 0, o 55 (.un .not) [.t 54] 1]) (.cond (.t 55) (.reg 0 none [m 56 (.t 12) 0, m 57 (.t 11) 1, m 11 (.t 56) 2, m 12 (.t 57) 3]) .skip)) (.jn 32667107224410092492483962313449748306464 c4_3)))
def l4_0 : List O := [o 45 (.load true 7) [.t 5] 0, m 46 (.t 6) 1, ⟨some 47, .ix 2, [.t 46, .c (ci 0)], none, 2, 2⟩, ⟨some 48, .load true 2, [.t 47], none, 6, 3⟩, ⟨some 49, .call 19, [.t 45, .t 48], none, 15, 4⟩, ⟨some 44, .mov, [.t 49], none, 31, 5⟩, ⟨some 50, .ext 0, [.t 44], none, 63, 6⟩, ⟨some 51, .ext 1, [.t 44], none, 63, 7⟩, o 10 (.alloc 0 z1) [] 8, ⟨some 9, .mov, [.t 50], none, 383, 9⟩, ⟨none, .store 8, [.t 10, .t 51], none, 1023, 10⟩]
def c4_1 : C := (.seq (.reg 0 none [m 4 (.c cf) 0]) (.seq (.seq (.reg 0 none [m 29 (.t 0) 0, o 30 (.bin .lss) [.t 29, .c (ci 1)] 1, m 31 (.t 30) 2, ⟨some 32, .mov, [.t 0], some (31, false), 0, 3⟩, ⟨some 33, .bin .gtr, [.t 32, .c (ci 3)], some (31, false), 0, 4⟩, o 34 .pick [.t 31, .c ct, .t 33] 5]) (.cond (.t 34) (.seq (.reg 0 none [m 4 (.c ct) 0]) .ret) .skip)) (.seq (.reg 1 none [m 35 (.t 0) 0, o 36 (.call 10) [.t 35] 1, o 5 (.alloc 0 z14) [] 2, ⟨none, .store 7, [.t 5, .t 36], none, 0, 3⟩]) (.seq (.reg 0 none [o 38 (.load true 7) [.t 5] 0, o 39 (.bsl 1 [(.str [])] 1 [0]) [.c (.d (.str [102]))] 1, o 40 (.call 13) [.t 38, .t 39] 2, m 37 (.t 40) 3, o 41 (.ext 0) [.t 37] 4, o 42 (.ext 1) [.t 37] 5, o 43 (.ext 2) [.t 37] 6, m 6 (.t 41) 7, m 7 (.t 42) 8, m 8 (.t 43) 9]) (.seq (.reg 1 (some ⟨false, [0, 1, 2, 3, 4, 5, 6, 8, 9, 7, 10], 133⟩) l4_0) (.jn 21778071482940061661655974875633165533730 c4_2))))))
def c4 : Fn := { fid := 4, np := 2, ntmps := 133, body := (.jn 10889035741470030830827987437816582766595 c4_1), res := [.tmp 4] }
def d4_1 (c : Cx) (t0 t1 : V) (H : List Blk) : X := stepK c.pc c.ic c.n (.jn 10889035741470030830827987437816582766595 c4_1) (cn 0 133 [(0, t0), (1, t1)]) H (kTop c4.res)
def d4_2 (c : Cx) (t1 t5 t9 : V) (H : List Blk) : X := stepK c.pc c.ic c.n (.jn 21778071482940061661655974875633165533730 c4_2) (cn 0 133 [(1, t1), (5, t5), (9, t9)]) H (kTop c4.res)
def d4_3 (c : Cx) (t5 t9 t11 t12 : V) (H : List Blk) : X := stepK c.pc c.ic c.n (.jn 32667107224410092492483962313449748306464 c4_3) (cn 0 133 [(5, t5), (9, t9), (11, t11), (12, t12)]) H (kTop c4.res)
def d4_4 (c : Cx) (t14 t16 t18 t20 t23 t26 t28 : V) (H : List Blk) : X := stepK c.pc c.ic c.n (.jn 43556142965880123323311949751266676391936 c4_4) (cn 0 133 [(14, t14), (16, t16), (18, t18), (20, t20), (23, t23), (26, t26), (28, t28)]) H (kTop c4.res)
def b4_4 (c : Cx) (t14 t16 t18 t20 t23 t26 t28 : V) (H : List Blk) : X := p (aBin .eql t14 (ci 0)) fun x1 => guardK x1 true (fun k => (aMov t16).go H k) H fun x2 H => p (aPick x1 x2 cf) fun x3 => guardK x3 true (fun k => (aMov t18).go H k) H fun x4 H => (fun (t20 t23 t26 t28 x3 x4 : V) (H : L) (c : Cx) => guardK x3 true (fun k => (aBin .eql x4 (ci 0)).go H k) H fun x5 H => p (aPick x3 x5 cf) fun x6 => guardK x6 true (fun k => (aMov t20).go H k) H fun x7 H => guardK x6 true (fun k => (aUn .not x7).go H k) H fun x8 H => (fun (t23 t26 t28 x6 x8 : V) (H : L) (c : Cx) => p (aPick x6 x8 cf) fun x9 => guardK x9 true (fun k => (aMov t23).go H k) H fun x10 H => guardK x9 true (fun k => (aBin .eql x10 (ci 2)).go H k) H fun x11 H => p (aPick x9 x11 cf) fun x12 => (fun (t26 t28 x12 : V) (H : L) (c : Cx) => guardK x12 true (fun k => (aMov t26).go H k) H fun x13 H => guardK x12 true (fun k => (aBin .eql x13 (ci 2)).go H k) H fun x14 H => p (aPick x12 x14 cf) fun x15 => guardK x15 true (fun k => (aMov t28).go H k) H fun x16 H => (fun (x15 x16 : V) (H : L) (c : Cx) => guardK x15 true (fun k => (aUn .not x16).go H k) H fun x17 H => p (aPick x15 x17 cf) fun x18 => guardK x18 true (fun k => (aCall c.pc 18 []).go H k) H fun x19 H => p (aPick x18 x19 cf) fun x20 => some (x20, H)) x15 x16 H c) t26 t28 x12 H c) t23 t26 t28 x6 x8 H c) t20 t23 t26 t28 x3 x4 H c
def j4_4 (c : Cx) : F7 := b4_4 c
theorem o4_4 (c : Cx) : d4_4 c = j4_4 c := by
  unfold j4_4
  funext t14 t16 t18 t20 t23 t26 t28 H
  refine Eq.trans (stepK_jn c.pc c.ic c.n _ H _ 43556142965880123323311949751266676391936 c4_4) ?_
  kernel_rfl
def b4_3 (c : Cx) (j4 : F7) (t5 t9 t11 t12 : V) (H : List Blk) : X := newK 1 H fun q H => (aLoad true 7 t5).go H fun x1 H => p (aCall c.pc 11 [x1, t11]) fun x2 => (fun (t9 t12 x2 : V) (q : Nat) (H : L) (c : Cx) (j4 : F7) => p (aExt 0 x2) fun x3 => p (aExt 1 x2) fun x4 => (aAlloc (q + 0) z14).go H fun x5 H => (aStore 7 x5 x3).go H fun _ H => newK 1 H fun q H => p (aFld 3 x5) fun x6 => (aLoad true 4 x6).go H fun x7 H => p (aCall c.pc 15 [x7, t9]) fun x8 => (fun (t9 t12 x4 x5 x8 : V) (q : Nat) (H : L) (c : Cx) (j4 : F7) => p (aExt 0 x8) fun x9 => p (aExt 1 x8) fun x10 => (aAlloc (q + 0) [(ci 0), (ci 0)]).go H fun x11 H => (aStore 2 x11 x9).go H fun _ H => newK 1 H fun q H => (aLoad true 7 x5).go H fun x12 H => p (aCall c.pc 11 [x12, t12]) fun x13 => (fun (t9 x4 x10 x13 : V) (q : Nat) (H : L) (c : Cx) (j4 : F7) => p (aExt 0 x13) fun x14 => p (aExt 1 x13) fun x15 => (aAlloc (q + 0) z14).go H fun x16 H => (aStore 7 x16 x14).go H fun _ H => newK 1 H fun q H => p (aFld 3 x16) fun x17 => (aLoad true 4 x17).go H fun x18 H => p (aCall c.pc 15 [x18, t9]) fun x19 => (fun (t9 x4 x10 x15 x16 x19 : V) (q : Nat) (H : L) (c : Cx) (j4 : F7) => p (aExt 0 x19) fun x20 => p (aExt 1 x19) fun x21 => (aAlloc (q + 0) [(ci 0), (ci 0)]).go H fun x22 H => (aStore 2 x22 x20).go H fun _ H => (aLoad true 7 x16).go H fun x23 H => p (aBsl 1 [(.str [])] 1 [0] [(.d (.str [102]))]) fun x24 => (fun (t9 x4 x10 x15 x16 x21 x23 x24 : V) (H : L) (c : Cx) (j4 : F7) => p (aCall c.pc 13 [x23, x24]) fun x25 => p (aExt 0 x25) fun x26 => p (aExt 1 x25) fun x27 => p (aExt 2 x25) fun x28 => (aLoad true 7 x16).go H fun x29 H => p (aBsl 1 [(.str [])] 2 [0, 1] [(.d (.str [100])), (.d (.str [103]))]) fun x30 => (fun (t9 x4 x10 x15 x16 x21 x28 x29 x30 : V) (H : L) (c : Cx) (j4 : F7) => p (aCall c.pc 13 [x29, x30]) fun x31 => p (aExt 0 x31) fun x32 => p (aExt 1 x31) fun x33 => p (aExt 2 x31) fun x34 => newK 1 H fun q H => (aLoad true 7 x16).go H fun x35 H => p (aCall c.pc 20 [x35]) fun x36 => p (aCall c.pc 16 [x36, t9]) fun x37 => p (aExt 0 x37) fun x38 => p (aExt 1 x37) fun x39 => (aAlloc (q + 0) z1).go H fun x40 H => (aStore 8 x40 x38).go H fun _ H => j4 x4 x10 x15 x21 x28 x34 x39 H) t9 x4 x10 x15 x16 x21 x28 x29 x30 H c j4) t9 x4 x10 x15 x16 x21 x23 x24 H c j4) t9 x4 x10 x15 x16 x19 q H c j4) t9 x4 x10 x13 q H c j4) t9 t12 x4 x5 x8 q H c j4) t9 t12 x2 q H c j4
def j4_3 (c : Cx) : F4 := b4_3 c (j4_4 c)
theorem o4_3 (c : Cx) : d4_3 c = j4_3 c := by
  unfold j4_3; rw [← o4_4]
  funext t5 t9 t11 t12 H
  refine Eq.trans (stepK_jn c.pc c.ic c.n _ H _ 32667107224410092492483962313449748306464 c4_3) ?_
  kernel_rfl
def b4_2 (c : Cx) (j3 : F4) (t1 t5 t9 : V) (H : List Blk) : X := p (aBsl 1 [(.str [])] 1 [0] [(.d (.str [102]))]) fun x1 => p (aBsl 1 [(.str [])] 2 [0, 1] [(.d (.str [100])), (.d (.str [103]))]) fun x2 => p (aUn .not t1) fun x3 => condK x3 (j3 t5 t9 x2 x1 H) (j3 t5 t9 x1 x2 H)
def j4_2 (c : Cx) : F3 := b4_2 c (j4_3 c)
theorem o4_2 (c : Cx) : d4_2 c = j4_2 c := by
  unfold j4_2; rw [← o4_3]
  funext t1 t5 t9 H
  refine Eq.trans (stepK_jn c.pc c.ic c.n _ H _ 21778071482940061661655974875633165533730 c4_2) ?_
  kernel_rfl
def b4_1 (c : Cx) (j2 : F3) (t0 t1 : V) (H : List Blk) : X := p (aBin .lss t0 (ci 1)) fun x1 => guardK x1 false (fun k => (aMov t0).go H k) H fun x2 H => guardK x1 false (fun k => (aBin .gtr x2 (ci 3)).go H k) H fun x3 H => p (aPick x1 ct x3) fun x4 => condK x4 (some (ct, H)) ((fun (t0 t1 x1 x2 x3 x4 : V) (H : L) (c : Cx) (j2 : F3) => newK 1 H fun q H => p (aCall c.pc 10 [t0]) fun x5 => (aAlloc (q + 0) z14).go H fun x6 H => (aStore 7 x6 x5).go H fun _ H => (aLoad true 7 x6).go H fun x7 H => p (aBsl 1 [(.str [])] 1 [0] [(.d (.str [102]))]) fun x8 => (fun (t0 t1 x1 x2 x3 x4 x5 x6 x7 x8 : V) (H : L) (c : Cx) (j2 : F3) => p (aCall c.pc 13 [x7, x8]) fun x9 => p (aExt 0 x9) fun x10 => p (aExt 1 x9) fun x11 => p (aExt 2 x9) fun x12 => newK 1 H fun q H => drawnK c.pc c.ic l4_0 q (cn 0 133 [(0, t0), (1, t1), (4, cf), (5, x6), (6, x10), (7, x11), (8, x12), (29, t0), (30, x1), (31, x1), (32, x2), (33, x3), (34, x4), (35, t0), (36, x5), (37, x9), (38, x7), (39, x8), (40, x9), (41, x10), (42, x11), (43, x12)]) H fun ts12 H => j2 (getT ts12 1) (getT ts12 5) (getT ts12 9) H) t0 t1 x1 x2 x3 x4 x5 x6 x7 x8 H c j2) t0 t1 x1 x2 x3 x4 H c j2)
def j4_1 (c : Cx) : F2 := b4_1 c (j4_2 c)
theorem o4_1 (c : Cx) : d4_1 c = j4_1 c := by
  unfold j4_1; rw [← o4_2]
  funext t0 t1 H
  refine Eq.trans (stepK_jn c.pc c.ic c.n _ H _ 10889035741470030830827987437816582766595 c4_1) ?_
  kernel_rfl
def b4_0 (c : Cx) (j1 : F2) (t0 t1 : V) (H : List Blk) : X := j1 t0 t1 H
def s4 (c : Cx) (args : List V) (H : List Blk) : X := argsK 2 args (b4_0 c (j4_1 c) (getT args 0) (getT args 1) H)
theorem e4 (pc ic n args H) : runK pc ic n c4 args H = s4 ⟨pc, ic, n⟩ args H := by
  unfold s4; rw [← o4_1]
  kernel_rfl
def L4 : Leaf := ⟨c4, fun pc ic n => s4 ⟨pc, ic, n⟩, e4⟩
theorem kk4 : chkFn Go.Proofs.Tryz.prog ET 4 c4 = true := by kernel_rfl

def c10_1 : C := (.seq (.reg 1 none [o 2 (.alloc 0 z14) [] 0]) (.seq (.reg 1 none [o 6 (.build z16 z17) [.c (ci 1), .c (.d (.str [47, 102])), .c (ci 6)] 0, o 7 (.bsa 0 1 [(.d (.int .u8 0))] 3 [0, 1, 2]) [.c (.d (.int .u8 97)), .c (.d (.int .u8 98)), .c (.d (.int .u8 99))] 1, o 8 (.sealB 1) [.t 7] 2, o 9 (.build z16 z18) [.c (ci 7), .c (.d (.str [47, 102])), .t 8] 3, o 10 (.build z16 z17) [.c (ci 2), .c (.d (.str [47, 100])), .c (ci 7)] 4, o 11 (.build z16 [(0, 1), (1, 1)]) [.c (ci 1), .c (.d (.str [47, 100, 47, 120]))] 5, o 12 (.build z16 z19) [.c (ci 13), .c (.d (.str [47, 115])), .c (.d (.str [116]))] 6, o 13 (.build z16 z19) [.c (ci 3), .c (.d (.str [47, 102])), .c (.d (.str [47, 100, 47, 103]))] 7, o 14 (.bsl 7 z20 6 [0, 1, 2, 3, 4, 5]) [.t 6, .t 9, .t 10, .t 11, .t 12, .t 13] 8, m 3 (.t 14) 9]) (.seq (.reg 1 none [m 16 (.t 0) 0, o 17 (.bsl 1 [(.int .i64 0)] 2 [0, 1]) [.c (ci 1), .t 16] 1, o 18 (.build [.nilS, (ci 0)] [(0, 1), (1, 1)]) [.t 17, .c (ci 1)] 2, o 19 (.call 31) [.c (ci 300), .c (ci 60)] 3, o 20 (.call 31) [.c (ci 300), .c (ci 60)] 4, m 21 (.t 3) 5, o 22 (.call 32) [.t 20, .t 21] 6, o 23 (.bsl 4 z15 2 [0, 1]) [.t 19, .t 22] 7, o 24 (.call 30) [.t 18, .t 23] 8, m 15 (.t 24) 9, o 25 (.ext 0) [.t 15] 10, o 26 (.ext 1) [.t 15] 11, o 4 (.alloc 0 z14) [] 12, ⟨none, .store 7, [.t 4, .t 25], none, 0, 13⟩, m 5 (.t 26) 14]) (.seq (.reg 0 none [o 27 (.load true 7) [.t 4] 0, ⟨none, .store 7, [.t 2, .t 27], none, 0, 1⟩]) .ret))))
def c10 : Fn := { fid := 10, np := 1, ntmps := 28, body := (.jn 268435457 c10_1), res := [.cell 2 true 7] }
def d10_1 (c : Cx) (t0 : V) (H : List Blk) : X := stepK c.pc c.ic c.n (.jn 268435457 c10_1) (cn 0 28 [(0, t0)]) H (kTop c10.res)
def b10_1 (c : Cx) (t0 : V) (H : List Blk) : X := newK 1 H fun q H => (aAlloc (q + 0) z14).go H fun x1 H => newK 1 H fun q H => p (aBuild z16 z17 [(ci 1), (.d (.str [47, 102])), (ci 6)]) fun x2 => (fun (t0 x1 x2 : V) (q : Nat) (H : L) (c : Cx) => (aBsa (q + 0) 1 [(.d (.int .u8 0))] 3 [0, 1, 2] [(.d (.int .u8 97)), (.d (.int .u8 98)), (.d (.int .u8 99))]).go H fun x3 H => (aSealB 1 x3).go H fun x4 H => p (aBuild z16 z18 [(ci 7), (.d (.str [47, 102])), x4]) fun x5 => p (aBuild z16 z17 [(ci 2), (.d (.str [47, 100])), (ci 7)]) fun x6 => (fun (t0 x1 x2 x5 x6 : V) (H : L) (c : Cx) => p (aBuild z16 [(0, 1), (1, 1)] [(ci 1), (.d (.str [47, 100, 47, 120]))]) fun x7 => p (aBuild z16 z19 [(ci 13), (.d (.str [47, 115])), (.d (.str [116]))]) fun x8 => p (aBuild z16 z19 [(ci 3), (.d (.str [47, 102])), (.d (.str [47, 100, 47, 103]))]) fun x9 => p (aBsl 7 z20 6 [0, 1, 2, 3, 4, 5] [x2, x5, x6, x7, x8, x9]) fun x10 => newK 1 H fun q H => p (aBsl 1 [(.int .i64 0)] 2 [0, 1] [(ci 1), t0]) fun x11 => p (aBuild [.nilS, (ci 0)] [(0, 1), (1, 1)] [x11, (ci 1)]) fun x12 => p (aCall c.pc 31 [(ci 300), (ci 60)]) fun x13 => (fun (x1 x10 x12 x13 : V) (q : Nat) (H : L) (c : Cx) => p (aCall c.pc 31 [(ci 300), (ci 60)]) fun x14 => p (aCall c.pc 32 [x14, x10]) fun x15 => p (aBsl 4 z15 2 [0, 1] [x13, x15]) fun x16 => p (aCall c.pc 30 [x12, x16]) fun x17 => (fun (x1 x17 : V) (q : Nat) (H : L) => p (aExt 0 x17) fun x18 => p (aExt 1 x17) fun x19 => (aAlloc (q + 0) z14).go H fun x20 H => (aStore 7 x20 x18).go H fun _ H => (aLoad true 7 x20).go H fun x21 H => (aStore 7 x1 x21).go H fun _ H => bnd (loadV true 7 x1 H) fun x22 => some (x22, H)) x1 x17 q H) x1 x10 x12 x13 q H c) t0 x1 x2 x5 x6 H c) t0 x1 x2 q H c
def j10_1 (c : Cx) : F1 := b10_1 c
theorem o10_1 (c : Cx) : d10_1 c = j10_1 c := by
  unfold j10_1
  funext t0 H
  refine Eq.trans (stepK_jn c.pc c.ic c.n _ H _ 268435457 c10_1) ?_
  kernel_rfl
def b10_0 (c : Cx) (j1 : F1) (t0 : V) (H : List Blk) : X := j1 t0 H
def s10 (c : Cx) (args : List V) (H : List Blk) : X := argsK 1 args (b10_0 c (j10_1 c) (getT args 0) H)
theorem e10 (pc ic n args H) : runK pc ic n c10 args H = s10 ⟨pc, ic, n⟩ args H := by
  unfold s10; rw [← o10_1]
  kernel_rfl
def L10 : Leaf := ⟨c10, fun pc ic n => s10 ⟨pc, ic, n⟩, e10⟩
theorem kk10 : chkFn Go.Proofs.Tryz.prog ET 10 c10 = true := by kernel_rfl

def c11_2 : C := (.cond (.t 64) (.reg 0 none [o 66 (.load true 7) [.t 2] 0, o 67 (.load true 2) [.t 9] 1, m 68 (.t 10) 2, o 69 (.call 39) [.t 66, .t 67, .t 68] 3, m 65 (.t 69) 4, o 70 (.ext 0) [.t 65] 5, o 71 (.ext 1) [.t 65] 6, ⟨none, .store 7, [.t 12, .t 70], none, 0, 7⟩, m 8 (.t 71) 8]) .skip)
def c11_3 : C := (.seq (.reg 0 none [m 72 (.t 8) 0, o 73 (.bin .eql) [.t 72, .c (ci 0)] 1]) (.cond (.t 73) (.reg 0 none [o 75 (.load true 7) [.t 12] 0, m 76 (.t 1) 1, o 77 (.load true 2) [.t 9] 2, o 78 (.call 40) [.t 75, .t 76, .t 77] 3, m 74 (.t 78) 4, o 79 (.ext 0) [.t 74] 5, o 80 (.ext 1) [.t 74] 6, ⟨none, .store 7, [.t 12, .t 79], none, 0, 7⟩, m 8 (.t 80) 8]) .skip))
def c11_5 : C := (.seq (.reg 0 none [o 103 (.load true 7) [.t 12] 0, ⟨none, .store 7, [.t 4, .t 103], none, 0, 1⟩, m 5 (.c (ci 0)) 2]) .ret)
def c11_4 : C := (.seq (.seq (.reg 0 none [m 92 (.t 8) 0, o 93 (.bin .neq) [.t 92, .c (ci 0)] 1]) (.cond (.t 93) (.seq (.reg 0 none [o 94 (.load true 7) [.t 2] 0, m 95 (.t 8) 1, ⟨none, .store 7, [.t 4, .t 94], none, 0, 2⟩, m 5 (.t 95) 3]) .ret) .skip)) (.seq (.seq (.reg 0 none [o 96 (.load true 7) [.t 12] 0, m 97 (.t 10) 1, o 98 (.call 38) [.t 96, .t 97] 2, o 99 (.bin .eql) [.t 98, .c (ci 0)] 3]) (.cond (.t 99) (.reg 0 none [o 100 (.load true 7) [.t 12] 0, m 101 (.t 10) 1, o 102 (.call 43) [.t 100, .t 101] 2, ⟨none, .store 7, [.t 12, .t 102], none, 0, 3⟩]) .skip)) (.jn 101412048018258352119736256434192 c11_5)))
def c11_1 : C := (.seq (.reg 2 none [o 2 (.box 0) [.t 0] 0, o 4 (.alloc 1 z14) [] 1, m 5 (.c (ci 0)) 2]) (.seq (.reg 0 none [o 16 (.load true 7) [.t 2] 0, m 17 (.t 1) 1, o 18 (.call 33) [.t 16, .t 17] 2, m 15 (.t 18) 3, o 19 (.ext 0) [.t 15] 4, o 20 (.ext 1) [.t 15] 5, o 21 (.ext 2) [.t 15] 6, m 6 (.t 19) 7, m 7 (.t 20) 8, m 8 (.t 21) 9]) (.seq (.seq (.reg 0 none [m 22 (.t 8) 0, o 23 (.bin .neq) [.t 22, .c (ci 0)] 1]) (.cond (.t 23) (.seq (.reg 0 none [o 24 (.load true 7) [.t 2] 0, m 25 (.t 8) 1, ⟨none, .store 7, [.t 4, .t 24], none, 0, 2⟩, m 5 (.t 25) 3]) .ret) .skip)) (.seq (.reg 1 none [m 26 (.t 6) 0, o 27 (.ix 2) [.t 26, .c (ci 0)] 1, o 28 (.load true 2) [.t 27] 2, o 9 (.alloc 0 [(ci 0), (ci 0)]) [] 3, ⟨none, .store 2, [.t 9, .t 28], none, 0, 4⟩]) (.seq (.reg 0 none [o 30 (.fld 3) [.t 2] 0, o 31 (.load true 4) [.t 30] 1, o 32 (.load true 2) [.t 9] 2, o 33 (.call 34) [.t 31, .t 32] 3, m 29 (.t 33) 4, o 34 (.ext 0) [.t 29] 5, o 35 (.ext 1) [.t 29] 6, m 10 (.t 34) 7, m 11 (.t 35) 8]) (.seq (.reg 1 none [o 36 (.load true 7) [.t 2] 0, o 12 (.alloc 0 z14) [] 1, ⟨none, .store 7, [.t 12, .t 36], none, 0, 2⟩]) (.seq (.seq (.reg 0 none [o 37 (.fld 0) [.t 2] 0, o 38 (.load true 2) [.t 37] 1, o 39 (.fld 0) [.t 9] 2, o 40 (.load false 1) [.t 39] 3, o 41 (.call 35) [.t 38, .t 40] 4]) (.cond (.t 41) (.seq (.reg 1 none [o 43 (.fld 3) [.t 2] 0, o 44 (.load true 4) [.t 43] 1, m 45 (.t 10) 2, o 46 (.call 36) [.t 44, .t 45] 3, m 42 (.t 46) 4, o 47 (.ext 0) [.t 42] 5, o 48 (.ext 1) [.t 42] 6, o 13 (.alloc 0 [(ci 0), (ci 0)]) [] 7, ⟨none, .store 2, [.t 13, .t 47], none, 0, 8⟩, m 14 (.t 48) 9]) (.seq (.seq (.reg 0 none [o 49 (.load true 2) [.t 9] 0, o 50 (.load true 2) [.t 13] 1, o 51 (.beq false [0, 0]) [.t 49, .t 50] 2, m 52 (.t 51) 3, ⟨some 53, .load true 7, [.t 2], some (52, true), 0, 4⟩, ⟨some 54, .load true 2, [.t 9], some (52, true), 0, 5⟩, ⟨some 55, .call 37, [.t 53, .t 54], some (52, true), 0, 6⟩, ⟨some 56, .fldv 3 1 false, [.t 55], some (52, true), 0, 7⟩, ⟨some 57, .bin .eql, [.t 56, .c (ci 1)], some (52, true), 0, 8⟩, o 58 .pick [.t 52, .t 57, .c cf] 9, m 59 (.t 58) 10, ⟨some 60, .load true 7, [.t 2], some (59, true), 0, 11⟩, ⟨some 61, .mov, [.t 10], some (59, true), 0, 12⟩, ⟨some 62, .call 38, [.t 60, .t 61], some (59, true), 0, 13⟩, ⟨some 63, .bin .gtr, [.t 62, .c (ci 1)], some (59, true), 0, 14⟩, o 64 .pick [.t 59, .t 63, .c cf] 15]) (.jn 40564819207321787591968212129558 c11_2)) (.jn 60847228810955011271841753863958 c11_3))) (.reg 0 (some ⟨true, [0, 1, 2, 3, 4, 5, 6, 7, 8, 9, 11, 10, 12], 104⟩) [o 82 (.load true 7) [.t 2] 0, m 83 (.t 1) 1, o 84 (.fld 0) [.t 2] 2, ⟨some 85, .load true 2, [.t 84], none, 4, 3⟩, o 86 (.fld 0) [.t 9] 4, ⟨some 87, .load false 1, [.t 86], none, 16, 5⟩, ⟨some 88, .call 42, [.t 85, .t 87], none, 60, 6⟩, ⟨some 89, .call 41, [.t 82, .t 83, .t 88], none, 127, 7⟩, ⟨some 81, .mov, [.t 89], none, 255, 8⟩, ⟨some 90, .ext 0, [.t 81], none, 511, 9⟩, ⟨some 91, .ext 1, [.t 81], none, 511, 10⟩, ⟨none, .store 7, [.t 12, .t 90], none, 1023, 11⟩, ⟨some 8, .mov, [.t 91], none, 4095, 12⟩]))) (.jn 81129638414606681695789005149460 c11_4))))))))
def c11 : Fn := { fid := 11, np := 2, ntmps := 104, body := (.jn 20282409603651670423947251286019 c11_1), res := [.cell 4 true 7, .tmp 5] }
def d11_1 (c : Cx) (t0 t1 : V) (H : List Blk) : X := stepK c.pc c.ic c.n (.jn 20282409603651670423947251286019 c11_1) (cn 0 104 [(0, t0), (1, t1)]) H (kTop c11.res)
def k11_1 (c : Cx) : KT := thenK (stepK c.pc c.ic c.n (.jn 81129638414606681695789005149460 c11_4)) (kTop c11.res)
def k11_2 (c : Cx) : KT := thenK (stepK c.pc c.ic c.n (.jn 60847228810955011271841753863958 c11_3)) (k11_1 c)
def d11_2 (c : Cx) (t1 t2 t4 t8 t9 t10 t12 t64 : V) (H : List Blk) : X := stepK c.pc c.ic c.n (.jn 40564819207321787591968212129558 c11_2) (cn 0 104 [(1, t1), (2, t2), (4, t4), (8, t8), (9, t9), (10, t10), (12, t12), (64, t64)]) H (k11_2 c)
def d11_3 (c : Cx) (t1 t2 t4 t8 t9 t10 t12 : V) (H : List Blk) : X := stepK c.pc c.ic c.n (.jn 60847228810955011271841753863958 c11_3) (cn 0 104 [(1, t1), (2, t2), (4, t4), (8, t8), (9, t9), (10, t10), (12, t12)]) H (k11_1 c)
def d11_4 (c : Cx) (t2 t4 t8 t10 t12 : V) (H : List Blk) : X := stepK c.pc c.ic c.n (.jn 81129638414606681695789005149460 c11_4) (cn 0 104 [(2, t2), (4, t4), (8, t8), (10, t10), (12, t12)]) H (kTop c11.res)
def d11_5 (c : Cx) (t4 t12 : V) (H : List Blk) : X := stepK c.pc c.ic c.n (.jn 101412048018258352119736256434192 c11_5) (cn 0 104 [(4, t4), (12, t12)]) H (kTop c11.res)
def b11_5 (c : Cx) (t4 t12 : V) (H : List Blk) : X := (aLoad true 7 t12).go H fun x1 H => (aStore 7 t4 x1).go H fun _ H => bnd (loadV true 7 t4 H) fun x2 => some (.tup [x2, (ci 0)], H)
def j11_5 (c : Cx) : F2 := b11_5 c
theorem o11_5 (c : Cx) : d11_5 c = j11_5 c := by
  unfold j11_5
  funext t4 t12 H
  refine Eq.trans (stepK_jn c.pc c.ic c.n _ H _ 101412048018258352119736256434192 c11_5) ?_
  kernel_rfl
def b11_4 (c : Cx) (j5 : F2) (t2 t4 t8 t10 t12 : V) (H : List Blk) : X := p (aBin .neq t8 (ci 0)) fun x1 => condK x1 ((aLoad true 7 t2).go H fun x2 H => (aStore 7 t4 x2).go H fun _ H => bnd (loadV true 7 t4 H) fun x3 => some (.tup [x3, t8], H)) ((fun (t4 t10 t12 : V) (H : L) (c : Cx) (j5 : F2) => (aLoad true 7 t12).go H fun x4 H => p (aCall c.pc 38 [x4, t10]) fun x5 => p (aBin .eql x5 (ci 0)) fun x6 => condK x6 ((aLoad true 7 t12).go H fun x7 H => p (aCall c.pc 43 [x7, t10]) fun x8 => (aStore 7 t12 x8).go H fun _ H => j5 t4 t12 H) (j5 t4 t12 H)) t4 t10 t12 H c j5)
def j11_4 (c : Cx) : F5 := b11_4 c (j11_5 c)
theorem o11_4 (c : Cx) : d11_4 c = j11_4 c := by
  unfold j11_4; rw [← o11_5]
  funext t2 t4 t8 t10 t12 H
  refine Eq.trans (stepK_jn c.pc c.ic c.n _ H _ 81129638414606681695789005149460 c11_4) ?_
  kernel_rfl
def b11_3 (c : Cx) (j4 : F5) (t1 t2 t4 t8 t9 t10 t12 : V) (H : List Blk) : X := p (aBin .eql t8 (ci 0)) fun x1 => condK x1 ((fun (t1 t2 t4 t9 t10 t12 : V) (H : L) (c : Cx) (j4 : F5) => (aLoad true 7 t12).go H fun x2 H => (aLoad true 2 t9).go H fun x3 H => p (aCall c.pc 40 [x2, t1, x3]) fun x4 => p (aExt 0 x4) fun x5 => p (aExt 1 x4) fun x6 => (aStore 7 t12 x5).go H fun _ H => j4 t2 t4 x6 t10 t12 H) t1 t2 t4 t9 t10 t12 H c j4) (j4 t2 t4 t8 t10 t12 H)
def j11_3 (c : Cx) : F7 := b11_3 c (j11_4 c)
theorem o11_3 (c : Cx) : d11_3 c = j11_3 c := by
  unfold j11_3; rw [← o11_4]
  funext t1 t2 t4 t8 t9 t10 t12 H
  refine Eq.trans (stepK_jn c.pc c.ic c.n _ H _ 60847228810955011271841753863958 c11_3) ?_
  kernel_rfl
def b11_2 (c : Cx) (j3 : F7) (t1 t2 t4 t8 t9 t10 t12 t64 : V) (H : List Blk) : X := condK t64 ((fun (t1 t2 t4 t9 t10 t12 : V) (H : L) (c : Cx) (j3 : F7) => (aLoad true 7 t2).go H fun x1 H => (aLoad true 2 t9).go H fun x2 H => p (aCall c.pc 39 [x1, x2, t10]) fun x3 => p (aExt 0 x3) fun x4 => p (aExt 1 x3) fun x5 => (aStore 7 t12 x4).go H fun _ H => j3 t1 t2 t4 x5 t9 t10 t12 H) t1 t2 t4 t9 t10 t12 H c j3) (j3 t1 t2 t4 t8 t9 t10 t12 H)
def j11_2 (c : Cx) : F8 := b11_2 c (j11_3 c)
theorem o11_2 (c : Cx) : d11_2 c = j11_2 c := by
  unfold j11_2; rw [← o11_3]
  funext t1 t2 t4 t8 t9 t10 t12 t64 H
  refine Eq.trans (stepK_jn c.pc c.ic c.n _ H _ 40564819207321787591968212129558 c11_2) ?_
  kernel_rfl
def b11_1 (c : Cx) (j2 : F8) (j4 : F5) (t0 t1 : V) (H : List Blk) : X := newK 2 H fun q H => (aBox (q + 0) t0).go H fun x1 H => (aAlloc (q + 1) z14).go H fun x2 H => (aLoad true 7 x1).go H fun x3 H => (fun (t1 x1 x2 x3 : V) (H : L) (c : Cx) (j2 : F8) (j4 : F5) => p (aCall c.pc 33 [x3, t1]) fun x4 => p (aExt 0 x4) fun x5 => p (aExt 1 x4) fun x6 => p (aExt 2 x4) fun x7 => p (aBin .neq x7 (ci 0)) fun x8 => condK x8 ((aLoad true 7 x1).go H fun x9 H => (aStore 7 x2 x9).go H fun _ H => bnd (loadV true 7 x2 H) fun x10 => some (.tup [x10, x7], H)) ((fun (t1 x1 x2 x5 x7 : V) (H : L) (c : Cx) (j2 : F8) (j4 : F5) => newK 1 H fun q H => (fun (t1 x1 x2 x5 x7 : V) (q : Nat) (H : L) (c : Cx) (j2 : F8) (j4 : F5) => p (aIx 2 x5 (ci 0)) fun x11 => (aLoad true 2 x11).go H fun x12 H => (aAlloc (q + 0) [(ci 0), (ci 0)]).go H fun x13 H => (aStore 2 x13 x12).go H fun _ H => p (aFld 3 x1) fun x14 => (aLoad true 4 x14).go H fun x15 H => (fun (t1 x1 x2 x7 x13 x15 : V) (H : L) (c : Cx) (j2 : F8) (j4 : F5) => (aLoad true 2 x13).go H fun x16 H => p (aCall c.pc 34 [x15, x16]) fun x17 => p (aExt 0 x17) fun x18 => p (aExt 1 x17) fun x19 => newK 1 H fun q H => (aLoad true 7 x1).go H fun x20 H => (aAlloc (q + 0) z14).go H fun x21 H => (aStore 7 x21 x20).go H fun _ H => p (aFld 0 x1) fun x22 => (fun (t1 x1 x2 x7 x13 x18 x21 x22 : V) (H : L) (c : Cx) (j2 : F8) (j4 : F5) => (aLoad true 2 x22).go H fun x23 H => p (aFld 0 x13) fun x24 => (aLoad false 1 x24).go H fun x25 H => p (aCall c.pc 35 [x23, x25]) fun x26 => condK x26 ((fun (t1 x1 x2 x7 x13 x18 x21 : V) (H : L) (c : Cx) (j2 : F8) => newK 1 H fun q H => p (aFld 3 x1) fun x27 => (aLoad true 4 x27).go H fun x28 H => p (aCall c.pc 36 [x28, x18]) fun x29 => (fun (t1 x1 x2 x7 x13 x18 x21 x29 : V) (q : Nat) (H : L) (c : Cx) (j2 : F8) => p (aExt 0 x29) fun x30 => p (aExt 1 x29) fun x31 => (aAlloc (q + 0) [(ci 0), (ci 0)]).go H fun x32 H => (aStore 2 x32 x30).go H fun _ H => (aLoad true 2 x13).go H fun x33 H => (aLoad true 2 x32).go H fun x34 H => (fun (t1 x1 x2 x7 x13 x18 x21 x33 x34 : V) (H : L) (c : Cx) (j2 : F8) => p (aBeq false [0, 0] x33 x34) fun x35 => guardK x35 true (fun k => (aLoad true 7 x1).go H k) H fun x36 H => guardK x35 true (fun k => (aLoad true 2 x13).go H k) H fun x37 H => guardK x35 true (fun k => (aCall c.pc 37 [x36, x37]).go H k) H fun x38 H => (fun (t1 x1 x2 x7 x13 x18 x21 x35 x38 : V) (H : L) (c : Cx) (j2 : F8) => guardK x35 true (fun k => (aFldv 3 1 false x38).go H k) H fun x39 H => guardK x35 true (fun k => (aBin .eql x39 (ci 1)).go H k) H fun x40 H => p (aPick x35 x40 cf) fun x41 => guardK x41 true (fun k => (aLoad true 7 x1).go H k) H fun x42 H => (fun (t1 x1 x2 x7 x13 x18 x21 x41 x42 : V) (H : L) (c : Cx) (j2 : F8) => guardK x41 true (fun k => (aMov x18).go H k) H fun x43 H => guardK x41 true (fun k => (aCall c.pc 38 [x42, x43]).go H k) H fun x44 H => guardK x41 true (fun k => (aBin .gtr x44 (ci 1)).go H k) H fun x45 H => p (aPick x41 x45 cf) fun x46 => j2 t1 x1 x2 x7 x13 x18 x21 x46 H) t1 x1 x2 x7 x13 x18 x21 x41 x42 H c j2) t1 x1 x2 x7 x13 x18 x21 x35 x38 H c j2) t1 x1 x2 x7 x13 x18 x21 x33 x34 H c j2) t1 x1 x2 x7 x13 x18 x21 x29 q H c j2) t1 x1 x2 x7 x13 x18 x21 H c j2) ((fun (t1 x1 x2 x13 x18 x21 : V) (H : L) (c : Cx) (j4 : F5) => (aLoad true 7 x1).go H fun x47 H => p (aFld 0 x1) fun x48 => (fun (t1 x1 x2 x13 x18 x21 x47 x48 : V) (H : L) (c : Cx) (j4 : F5) => (aLoad true 2 x48).go H fun x49 H => p (aFld 0 x13) fun x50 => (aLoad false 1 x50).go H fun x51 H => p (aCall c.pc 42 [x49, x51]) fun x52 => p (aCall c.pc 41 [x47, t1, x52]) fun x53 => p (aExt 0 x53) fun x54 => p (aExt 1 x53) fun x55 => (aStore 7 x21 x54).go H fun _ H => j4 x1 x2 x55 x18 x21 H) t1 x1 x2 x13 x18 x21 x47 x48 H c j4) t1 x1 x2 x13 x18 x21 H c j4)) t1 x1 x2 x7 x13 x18 x21 x22 H c j2 j4) t1 x1 x2 x7 x13 x15 H c j2 j4) t1 x1 x2 x5 x7 q H c j2 j4) t1 x1 x2 x5 x7 H c j2 j4)) t1 x1 x2 x3 H c j2 j4
def j11_1 (c : Cx) : F2 := b11_1 c (j11_2 c) (j11_4 c)
theorem o11_1 (c : Cx) : d11_1 c = j11_1 c := by
  unfold j11_1; rw [← o11_2, ← o11_4]
  funext t0 t1 H
  refine Eq.trans (stepK_jn c.pc c.ic c.n _ H _ 20282409603651670423947251286019 c11_1) ?_
  kernel_rfl
def b11_0 (c : Cx) (j1 : F2) (t0 t1 : V) (H : List Blk) : X := j1 t0 t1 H
def s11 (c : Cx) (args : List V) (H : List Blk) : X := argsK 2 args (b11_0 c (j11_1 c) (getT args 0) (getT args 1) H)
theorem e11 (pc ic n args H) : runK pc ic n c11 args H = s11 ⟨pc, ic, n⟩ args H := by
  unfold s11; rw [← o11_1]
  kernel_rfl
def L11 : Leaf := ⟨c11, fun pc ic n => s11 ⟨pc, ic, n⟩, e11⟩
theorem kk11 : chkFn Go.Proofs.Tryz.prog ET 11 c11 = true := by kernel_rfl

def c12_2 : C := (.seq (.seq (.reg 0 none [m 16 (.t 8) 0, m 17 (.t 1) 1, o 18 (.len 1) [.t 17] 2, o 19 (.bin .lss) [.t 16, .t 18] 3]) (.cond (.t 19) .skip (.exit 0))) (.seq (.blk 1 (.seq (.seq (.reg 0 none [o 22 (.fld 1) [.t 6] 0, o 23 (.load false 1) [.t 22] 1, o 24 (.bin .neq) [.t 23, .c (ci 2)] 2]) (.cond (.t 24) (.seq (.reg 0 none [o 25 (.build z1 []) [] 0, ⟨none, .store 8, [.t 4, .t 25], none, 0, 1⟩, m 5 (.c (ci 4)) 2]) .ret) .skip)) (.seq (.reg 0 (some ⟨true, [0, 1, 2, 3, 4, 5, 6, 7, 9, 8, 10], 45⟩) [o 27 (.load true 8) [.t 6] 0, m 28 (.t 1) 1, m 29 (.t 8) 2, ⟨some 30, .ix 1, [.t 28, .t 29], none, 6, 3⟩, ⟨some 31, .load false 1, [.t 30], none, 14, 4⟩, ⟨some 32, .call 44, [.t 27, .t 31], none, 31, 5⟩, ⟨some 26, .mov, [.t 32], none, 63, 6⟩, ⟨some 33, .ext 0, [.t 26], none, 127, 7⟩, ⟨some 34, .ext 1, [.t 26], none, 127, 8⟩, ⟨some 9, .mov, [.t 33], none, 255, 9⟩, ⟨some 10, .mov, [.t 34], none, 1023, 10⟩]) (.seq (.seq (.reg 0 none [m 35 (.t 10) 0, o 36 (.un .not) [.t 35] 1]) (.cond (.t 36) (.seq (.reg 0 none [o 37 (.build z1 []) [] 0, ⟨none, .store 8, [.t 4, .t 37], none, 0, 1⟩, m 5 (.c (ci 2)) 2]) .ret) .skip)) (.reg 0 none [o 39 (.load true 4) [.t 2] 0, m 40 (.t 9) 1, o 41 (.call 16) [.t 39, .t 40] 2, m 38 (.t 41) 3, o 42 (.ext 0) [.t 38] 4, o 43 (.ext 1) [.t 38] 5, ⟨none, .store 8, [.t 6, .t 42], none, 0, 6⟩]))))) (.reg 0 none [m 20 (.t 8) 0, o 21 (.bin .add) [.t 20, .c (ci 1)] 1, m 8 (.t 21) 2])))
def c12_s1 : C := (.seq (.reg 0 none [o 44 (.load true 8) [.t 6] 0, ⟨none, .store 8, [.t 4, .t 44], none, 0, 1⟩, m 5 (.c (ci 0)) 2]) .ret)
def c12_1 : C := (.seq (.reg 2 none [o 2 (.box 0) [.t 0] 0, o 4 (.alloc 1 z1) [] 1, m 5 (.c (ci 0)) 2]) (.seq (.reg 1 none [o 12 (.load true 4) [.t 2] 0, o 13 (.call 16) [.t 12, .c (ci 1)] 1, m 11 (.t 13) 2, o 14 (.ext 0) [.t 11] 3, o 15 (.ext 1) [.t 11] 4, o 6 (.alloc 0 z1) [] 5, ⟨none, .store 8, [.t 6, .t 14], none, 0, 6⟩, m 7 (.t 15) 7]) (.seq (.seq (.reg 0 none [m 8 (.c (ci 0)) 0]) (.blk 0 (.loop 70368744178006 false c12_2))) c12_s1)))
def c12 : Fn := { fid := 12, np := 2, ntmps := 45, body := (.jn 35184372088835 c12_1), res := [.cell 4 true 8, .tmp 5] }
def d12_1 (c : Cx) (t0 t1 : V) (H : List Blk) : X := stepK c.pc c.ic c.n (.jn 35184372088835 c12_1) (cn 0 45 [(0, t0), (1, t1)]) H (kTop c12.res)
def k12_1 (c : Cx) : KT := thenK (stepK c.pc c.ic c.n c12_s1) (kTop c12.res)
def k12_2 (c : Cx) : KT := blkK 0 (k12_1 c)
def d12_2 (c : Cx) (m n2 : Nat) (t1 t2 t4 t6 t8 : V) (H : List Blk) : X := jnK (loopsK (stepK c.pc c.ic c.n c12_2) 70368744178006 false n2 m) (cn 0 45 [(1, t1), (2, t2), (4, t4), (6, t6), (8, t8)]) H (k12_2 c) 70368744178006
def b12_2 (c : Cx) (r2 : F5) (n2 : Nat) (t1 t2 t4 t6 t8 : V) (H : List Blk) : X := (aLen 1 t1).go H fun x1 H => p (aBin .lss t8 x1) fun x2 => condK x2 ((fun (t1 t2 t4 t6 t8 : V) (H : L) (c : Cx) (r2 : F5) => p (aFld 1 t6) fun x3 => (aLoad false 1 x3).go H fun x4 H => p (aBin .neq x4 (ci 2)) fun x5 => condK x5 (p (aBuild z1 [] []) fun x6 => (aStore 8 t4 x6).go H fun _ H => bnd (loadV true 8 t4 H) fun x7 => some (.tup [x7, (ci 4)], H)) ((fun (t1 t2 t4 t6 t8 : V) (H : L) (c : Cx) (r2 : F5) => (aLoad true 8 t6).go H fun x8 H => p (aIx 1 t1 t8) fun x9 => (fun (t1 t2 t4 t6 t8 x8 x9 : V) (H : L) (c : Cx) (r2 : F5) => (aLoad false 1 x9).go H fun x10 H => p (aCall c.pc 44 [x8, x10]) fun x11 => p (aExt 0 x11) fun x12 => p (aExt 1 x11) fun x13 => p (aUn .not x13) fun x14 => condK x14 (p (aBuild z1 [] []) fun x15 => (aStore 8 t4 x15).go H fun _ H => bnd (loadV true 8 t4 H) fun x16 => some (.tup [x16, (ci 2)], H)) ((fun (t1 t2 t4 t6 t8 x12 : V) (H : L) (c : Cx) (r2 : F5) => (aLoad true 4 t2).go H fun x17 H => (fun (t1 t2 t4 t6 t8 x12 x17 : V) (H : L) (c : Cx) (r2 : F5) => p (aCall c.pc 16 [x17, x12]) fun x18 => p (aExt 0 x18) fun x19 => p (aExt 1 x18) fun x20 => (aStore 8 t6 x19).go H fun _ H => p (aBin .add t8 (ci 1)) fun x21 => r2 t1 t2 t4 t6 x21 H) t1 t2 t4 t6 t8 x12 x17 H c r2) t1 t2 t4 t6 t8 x12 H c r2)) t1 t2 t4 t6 t8 x8 x9 H c r2) t1 t2 t4 t6 t8 H c r2)) t1 t2 t4 t6 t8 H c r2) ((aLoad true 8 t6).go H fun x22 H => (aStore 8 t4 x22).go H fun _ H => bnd (loadV true 8 t4 H) fun x23 => some (.tup [x23, (ci 0)], H))
def j12_2 (c : Cx) : Nat → Nat → F5 := recN (fun _ _ _ _ _ _ _ => none) fun ih n2 => b12_2 c (ih n2) n2
theorem o12_2 (c : Cx) : d12_2 c = j12_2 c := by
  unfold j12_2
  refine recN_ok (by kernel_rfl) fun m => funext fun n2 => ?_
  funext t1 t2 t4 t6 t8 H
  refine Eq.trans (jnK_eq 70368744178006 _ _ H _) ?_
  kernel_rfl
def b12_1 (c : Cx) (j2 : Nat → Nat → F5) (t0 t1 : V) (H : List Blk) : X := newK 2 H fun q H => (aBox (q + 0) t0).go H fun x1 H => (aAlloc (q + 1) z1).go H fun x2 H => newK 1 H fun q H => (aLoad true 4 x1).go H fun x3 H => p (aCall c.pc 16 [x3, (ci 1)]) fun x4 => p (aExt 0 x4) fun x5 => p (aExt 1 x4) fun x6 => (aAlloc (q + 0) z1).go H fun x7 H => (aStore 8 x7 x5).go H fun _ H => j2 c.n H.length t1 x1 x2 x7 (ci 0) H
def j12_1 (c : Cx) : F2 := b12_1 c (j12_2 c)
theorem o12_1 (c : Cx) : d12_1 c = j12_1 c := by
  unfold j12_1; rw [← o12_2]
  funext t0 t1 H
  refine Eq.trans (stepK_jn c.pc c.ic c.n _ H _ 35184372088835 c12_1) ?_
  kernel_rfl
def b12_0 (c : Cx) (j1 : F2) (t0 t1 : V) (H : List Blk) : X := j1 t0 t1 H
def s12 (c : Cx) (args : List V) (H : List Blk) : X := argsK 2 args (b12_0 c (j12_1 c) (getT args 0) (getT args 1) H)
theorem e12 (pc ic n args H) : runK pc ic n c12 args H = s12 ⟨pc, ic, n⟩ args H := by
  unfold s12; rw [← o12_1]
  kernel_rfl
def L12 : Leaf := ⟨c12, fun pc ic n => s12 ⟨pc, ic, n⟩, e12⟩
theorem kk12 : chkFn Go.Proofs.Tryz.prog ET 12 c12 = true := by kernel_rfl

def c13_2 : C := (.seq (.seq (.reg 0 none [m 21 (.t 9) 0, m 22 (.t 1) 1, o 23 (.len 1) [.t 22] 2, o 24 (.bin .lss) [.t 21, .t 23] 3]) (.cond (.t 24) .skip (.exit 0))) (.seq (.blk 1 (.seq (.seq (.reg 0 (some ⟨true, [], 55⟩) [o 27 (.load true 7) [.t 2] 0, m 28 (.t 7) 1, ⟨some 29, .ix 2, [.t 28, .c (ci 0)], none, 2, 2⟩, ⟨some 30, .load true 2, [.t 29], none, 6, 3⟩, ⟨some 31, .call 46, [.t 27, .t 30], none, 15, 4⟩, ⟨some 32, .un .not, [.t 31], none, 31, 5⟩]) (.cond (.t 32) (.seq (.reg 0 none [m 4 (.c .nilS) 0, m 5 (.c (ci 0)) 1, m 6 (.c (ci 4)) 2]) .ret) .skip)) (.seq (.reg 0 (some ⟨true, [], 55⟩) [o 33 (.load true 7) [.t 2] 0, m 34 (.t 7) 1, m 35 (.t 1) 2, m 36 (.t 9) 3, ⟨some 37, .ix 1, [.t 35, .t 36], none, 12, 4⟩, ⟨some 38, .load false 1, [.t 37], none, 28, 5⟩, ⟨some 39, .call 47, [.t 33, .t 34, .t 38], none, 63, 6⟩, ⟨some 10, .mov, [.t 39], none, 127, 7⟩]) (.seq (.seq (.reg 0 none [m 40 (.t 10) 0, o 41 (.len 1) [.t 40] 1, o 42 (.bin .eql) [.t 41, .c (ci 0)] 2]) (.cond (.t 42) (.seq (.reg 0 none [m 4 (.c .nilS) 0, m 5 (.c (ci 0)) 1, m 6 (.c (ci 2)) 2]) .ret) .skip)) (.seq (.reg 0 (some ⟨true, [], 55⟩) [m 43 (.t 8) 0, o 44 (.load true 7) [.t 2] 1, m 45 (.t 7) 2, m 46 (.t 1) 3, m 47 (.t 9) 4, ⟨some 48, .ix 1, [.t 46, .t 47], none, 24, 5⟩, ⟨some 49, .load false 1, [.t 48], none, 56, 6⟩, ⟨some 50, .call 48, [.t 44, .t 45, .t 49], none, 126, 7⟩, ⟨some 51, .min, [.t 43, .t 50], none, 255, 8⟩, ⟨some 8, .mov, [.t 51], none, 511, 9⟩]) (.reg 0 none [m 52 (.t 10) 0, m 7 (.t 52) 1])))))) (.reg 0 none [m 25 (.t 9) 0, o 26 (.bin .add) [.t 25, .c (ci 1)] 1, m 9 (.t 26) 2])))
def c13_s1 : C := (.seq (.reg 0 none [m 53 (.t 7) 0, m 54 (.t 8) 1, m 4 (.t 53) 2, m 5 (.t 54) 3, m 6 (.c (ci 0)) 4]) .ret)
def c13_1 : C := (.seq (.reg 1 none [o 2 (.box 0) [.t 0] 0, m 4 (.c .nilS) 1, m 5 (.c (ci 0)) 2, m 6 (.c (ci 0)) 3]) (.seq (.seq (.reg 0 none [o 11 (.fld 2) [.t 2] 0, o 12 (.load false 1) [.t 11] 1, o 13 (.len 1) [.t 12] 2, o 14 (.bin .eql) [.t 13, .c (ci 0)] 3]) (.cond (.t 14) (.seq (.reg 0 none [m 4 (.c .nilS) 0, m 5 (.c (ci 0)) 1, m 6 (.c (ci 2)) 2]) .ret) .skip)) (.seq (.reg 0 (some ⟨true, [0, 1, 2, 3, 4, 6, 5, 7], 55⟩) [o 15 (.load true 7) [.t 2] 0, ⟨some 16, .call 45, [.t 15], none, 1, 1⟩, o 17 (.fld 2) [.t 2] 2, ⟨some 18, .load false 1, [.t 17], none, 4, 3⟩, ⟨some 19, .len 1, [.t 18], none, 12, 4⟩, ⟨some 20, .bin .sub, [.t 19, .c (ci 1)], none, 28, 5⟩, ⟨some 7, .mov, [.t 16], none, 3, 6⟩, ⟨some 8, .mov, [.t 20], none, 127, 7⟩]) (.seq (.seq (.reg 0 none [m 9 (.c (ci 0)) 0]) (.blk 0 (.loop 72057594037928838 false c13_2))) c13_s1))))
def c13 : Fn := { fid := 13, np := 2, ntmps := 55, body := (.jn 36028797018963971 c13_1), res := [.tmp 4, .tmp 5, .tmp 6] }
def d13_1 (c : Cx) (t0 t1 : V) (H : List Blk) : X := stepK c.pc c.ic c.n (.jn 36028797018963971 c13_1) (cn 0 55 [(0, t0), (1, t1)]) H (kTop c13.res)
def k13_1 (c : Cx) : KT := thenK (stepK c.pc c.ic c.n c13_s1) (kTop c13.res)
def k13_2 (c : Cx) : KT := blkK 0 (k13_1 c)
def d13_2 (c : Cx) (m n2 : Nat) (t1 t2 t7 t8 t9 : V) (H : List Blk) : X := jnK (loopsK (stepK c.pc c.ic c.n c13_2) 72057594037928838 false n2 m) (cn 0 55 [(1, t1), (2, t2), (7, t7), (8, t8), (9, t9)]) H (k13_2 c) 72057594037928838
def b13_2 (c : Cx) (r2 : F5) (n2 : Nat) (t1 t2 t7 t8 t9 : V) (H : List Blk) : X := (aLen 1 t1).go H fun x1 H => p (aBin .lss t9 x1) fun x2 => condK x2 ((fun (t1 t2 t7 t8 t9 : V) (H : L) (c : Cx) (r2 : F5) => (aLoad true 7 t2).go H fun x3 H => (fun (t1 t2 t7 t8 t9 x3 : V) (H : L) (c : Cx) (r2 : F5) => p (aIx 2 t7 (ci 0)) fun x4 => (aLoad true 2 x4).go H fun x5 H => p (aCall c.pc 46 [x3, x5]) fun x6 => p (aUn .not x6) fun x7 => condK x7 (some (.tup [.nilS, (ci 0), (ci 4)], H)) ((fun (t1 t2 t7 t8 t9 : V) (H : L) (c : Cx) (r2 : F5) => (aLoad true 7 t2).go H fun x8 H => p (aIx 1 t1 t9) fun x9 => (aLoad false 1 x9).go H fun x10 H => p (aCall c.pc 47 [x8, t7, x10]) fun x11 => (aLen 1 x11).go H fun x12 H => p (aBin .eql x12 (ci 0)) fun x13 => condK x13 (some (.tup [.nilS, (ci 0), (ci 2)], H)) ((fun (t1 t2 t7 t8 t9 x11 : V) (H : L) (c : Cx) (r2 : F5) => (aLoad true 7 t2).go H fun x14 H => (fun (t1 t2 t7 t8 t9 x11 x14 : V) (H : L) (c : Cx) (r2 : F5) => p (aIx 1 t1 t9) fun x15 => (aLoad false 1 x15).go H fun x16 H => p (aCall c.pc 48 [x14, t7, x16]) fun x17 => p (aMin t8 [x17]) fun x18 => p (aBin .add t9 (ci 1)) fun x19 => r2 t1 t2 x11 x18 x19 H) t1 t2 t7 t8 t9 x11 x14 H c r2) t1 t2 t7 t8 t9 x11 H c r2)) t1 t2 t7 t8 t9 H c r2)) t1 t2 t7 t8 t9 x3 H c r2) t1 t2 t7 t8 t9 H c r2) (some (.tup [t7, t8, (ci 0)], H))
def j13_2 (c : Cx) : Nat → Nat → F5 := recN (fun _ _ _ _ _ _ _ => none) fun ih n2 => b13_2 c (ih n2) n2
theorem o13_2 (c : Cx) : d13_2 c = j13_2 c := by
  unfold j13_2
  refine recN_ok (by kernel_rfl) fun m => funext fun n2 => ?_
  funext t1 t2 t7 t8 t9 H
  refine Eq.trans (jnK_eq 72057594037928838 _ _ H _) ?_
  kernel_rfl
def b13_1 (c : Cx) (j2 : Nat → Nat → F5) (t0 t1 : V) (H : List Blk) : X := newK 1 H fun q H => (aBox (q + 0) t0).go H fun x1 H => p (aFld 2 x1) fun x2 => (aLoad false 1 x2).go H fun x3 H => (aLen 1 x3).go H fun x4 H => p (aBin .eql x4 (ci 0)) fun x5 => condK x5 (some (.tup [.nilS, (ci 0), (ci 2)], H)) ((fun (t1 x1 : V) (H : L) (c : Cx) (j2 : Nat → Nat → F5) => (aLoad true 7 x1).go H fun x6 H => p (aCall c.pc 45 [x6]) fun x7 => (fun (t1 x1 x7 : V) (H : L) (c : Cx) (j2 : Nat → Nat → F5) => p (aFld 2 x1) fun x8 => (aLoad false 1 x8).go H fun x9 H => (aLen 1 x9).go H fun x10 H => p (aBin .sub x10 (ci 1)) fun x11 => j2 c.n H.length t1 x1 x7 x11 (ci 0) H) t1 x1 x7 H c j2) t1 x1 H c j2)
def j13_1 (c : Cx) : F2 := b13_1 c (j13_2 c)
theorem o13_1 (c : Cx) : d13_1 c = j13_1 c := by
  unfold j13_1; rw [← o13_2]
  funext t0 t1 H
  refine Eq.trans (stepK_jn c.pc c.ic c.n _ H _ 36028797018963971 c13_1) ?_
  kernel_rfl
def b13_0 (c : Cx) (j1 : F2) (t0 t1 : V) (H : List Blk) : X := j1 t0 t1 H
def s13 (c : Cx) (args : List V) (H : List Blk) : X := argsK 2 args (b13_0 c (j13_1 c) (getT args 0) (getT args 1) H)
theorem e13 (pc ic n args H) : runK pc ic n c13 args H = s13 ⟨pc, ic, n⟩ args H := by
  unfold s13; rw [← o13_1]
  kernel_rfl
def L13 : Leaf := ⟨c13, fun pc ic n => s13 ⟨pc, ic, n⟩, e13⟩
theorem kk13 : chkFn Go.Proofs.Tryz.prog ET 13 c13 = true := by kernel_rfl

def c14_2 : C := (.seq (.seq (.reg 0 none [m 7 (.t 6) 0, o 8 (.fld 1) [.t 2] 1, o 9 (.load false 1) [.t 8] 2, o 10 (.len 1) [.t 9] 3, o 11 (.bin .lss) [.t 7, .t 10] 4]) (.cond (.t 11) .skip (.exit 0))) (.seq (.blk 1 (.seq (.reg 0 (some ⟨true, [], 28⟩) [o 14 (.fld 1) [.t 2] 0, ⟨some 15, .load false 1, [.t 14], none, 1, 1⟩, m 16 (.t 6) 2, ⟨some 17, .ix 3, [.t 15, .t 16], none, 7, 3⟩, ⟨some 18, .fld 0, [.t 17], none, 15, 4⟩, ⟨some 19, .load true 2, [.t 18], none, 31, 5⟩, o 20 (.load true 2) [.t 3] 6, ⟨some 21, .beq false [0, 0], [.t 19, .t 20], none, 127, 7⟩]) (.cond (.t 21) (.seq (.reg 0 none [o 22 (.fld 1) [.t 2] 0, o 23 (.load false 1) [.t 22] 1, m 24 (.t 6) 2, o 25 (.ix 3) [.t 23, .t 24] 3, o 26 (.fld 2) [.t 25] 4, o 27 (.load false 1) [.t 26] 5, m 4 (.t 27) 6, m 5 (.c ct) 7]) .ret) .skip))) (.reg 0 none [m 12 (.t 6) 0, o 13 (.bin .add) [.t 12, .c (ci 1)] 1, m 6 (.t 13) 2])))
def c14_s1 : C := (.seq (.reg 0 none [m 4 (.c (ci 0)) 0, m 5 (.c cf) 1]) .ret)
def c14_1 : C := (.seq (.reg 2 none [o 2 (.box 0) [.t 0] 0, o 3 (.box 1) [.t 1] 1, m 4 (.c (ci 0)) 2, m 5 (.c cf) 3]) (.seq (.seq (.reg 0 none [m 6 (.c (ci 0)) 0]) (.blk 0 (.loop 536870988 false c14_2))) c14_s1))
def c14 : Fn := { fid := 14, np := 2, ntmps := 28, body := (.jn 268435459 c14_1), res := [.tmp 4, .tmp 5] }
def d14_1 (c : Cx) (t0 t1 : V) (H : List Blk) : X := stepK c.pc c.ic c.n (.jn 268435459 c14_1) (cn 0 28 [(0, t0), (1, t1)]) H (kTop c14.res)
def k14_1 (c : Cx) : KT := thenK (stepK c.pc c.ic c.n c14_s1) (kTop c14.res)
def k14_2 (c : Cx) : KT := blkK 0 (k14_1 c)
def d14_2 (c : Cx) (m n2 : Nat) (t2 t3 t6 : V) (H : List Blk) : X := jnK (loopsK (stepK c.pc c.ic c.n c14_2) 536870988 false n2 m) (cn 0 28 [(2, t2), (3, t3), (6, t6)]) H (k14_2 c) 536870988
def b14_2 (c : Cx) (r2 : F3) (n2 : Nat) (t2 t3 t6 : V) (H : List Blk) : X := p (aFld 1 t2) fun x1 => (aLoad false 1 x1).go H fun x2 H => (aLen 1 x2).go H fun x3 H => p (aBin .lss t6 x3) fun x4 => condK x4 ((fun (t2 t3 t6 : V) (H : L) (r2 : F3) => p (aFld 1 t2) fun x5 => (aLoad false 1 x5).go H fun x6 H => p (aIx 3 x6 t6) fun x7 => (fun (t2 t3 t6 x7 : V) (H : L) (r2 : F3) => p (aFld 0 x7) fun x8 => (aLoad true 2 x8).go H fun x9 H => (aLoad true 2 t3).go H fun x10 H => p (aBeq false [0, 0] x9 x10) fun x11 => condK x11 ((fun (t2 t6 : V) (H : L) => p (aFld 1 t2) fun x12 => (aLoad false 1 x12).go H fun x13 H => p (aIx 3 x13 t6) fun x14 => p (aFld 2 x14) fun x15 => (aLoad false 1 x15).go H fun x16 H => some (.tup [x16, ct], H)) t2 t6 H) (p (aBin .add t6 (ci 1)) fun x17 => r2 t2 t3 x17 H)) t2 t3 t6 x7 H r2) t2 t3 t6 H r2) (some (.tup [(ci 0), cf], H))
def j14_2 (c : Cx) : Nat → Nat → F3 := recN (fun _ _ _ _ _ => none) fun ih n2 => b14_2 c (ih n2) n2
theorem o14_2 (c : Cx) : d14_2 c = j14_2 c := by
  unfold j14_2
  refine recN_ok (by kernel_rfl) fun m => funext fun n2 => ?_
  funext t2 t3 t6 H
  refine Eq.trans (jnK_eq 536870988 _ _ H _) ?_
  kernel_rfl
def b14_1 (c : Cx) (j2 : Nat → Nat → F3) (t0 t1 : V) (H : List Blk) : X := newK 2 H fun q H => (aBox (q + 0) t0).go H fun x1 H => (aBox (q + 1) t1).go H fun x2 H => j2 c.n H.length x1 x2 (ci 0) H
def j14_1 (c : Cx) : F2 := b14_1 c (j14_2 c)
theorem o14_1 (c : Cx) : d14_1 c = j14_1 c := by
  unfold j14_1; rw [← o14_2]
  funext t0 t1 H
  refine Eq.trans (stepK_jn c.pc c.ic c.n _ H _ 268435459 c14_1) ?_
  kernel_rfl
def b14_0 (c : Cx) (j1 : F2) (t0 t1 : V) (H : List Blk) : X := j1 t0 t1 H
def s14 (c : Cx) (args : List V) (H : List Blk) : X := argsK 2 args (b14_0 c (j14_1 c) (getT args 0) (getT args 1) H)
theorem e14 (pc ic n args H) : runK pc ic n c14 args H = s14 ⟨pc, ic, n⟩ args H := by
  unfold s14; rw [← o14_1]
  kernel_rfl
def L14 : Leaf := ⟨c14, fun pc ic n => s14 ⟨pc, ic, n⟩, e14⟩
theorem kk14 : chkFn Go.Proofs.Tryz.prog ET 14 c14 = true := by kernel_rfl

def c15_2 : C := (.seq (.seq (.reg 0 none [m 7 (.t 6) 0, o 8 (.fld 2) [.t 2] 1, o 9 (.load false 1) [.t 8] 2, o 10 (.len 1) [.t 9] 3, o 11 (.bin .lss) [.t 7, .t 10] 4]) (.cond (.t 11) .skip (.exit 0))) (.seq (.blk 1 (.seq (.reg 0 none [o 14 (.fld 2) [.t 2] 0, o 15 (.load false 1) [.t 14] 1, m 16 (.t 6) 2, o 17 (.ix 3) [.t 15, .t 16] 3, o 18 (.fld 2) [.t 17] 4, o 19 (.load false 1) [.t 18] 5, m 20 (.t 1) 6, o 21 (.bin .eql) [.t 19, .t 20] 7]) (.cond (.t 21) (.seq (.reg 0 none [o 22 (.fld 2) [.t 2] 0, o 23 (.load false 1) [.t 22] 1, m 24 (.t 6) 2, o 25 (.ix 3) [.t 23, .t 24] 3, o 26 (.fld 0) [.t 25] 4, o 27 (.load true 2) [.t 26] 5, ⟨none, .store 2, [.t 4, .t 27], none, 0, 6⟩, m 5 (.c ct) 7]) .ret) .skip))) (.reg 0 none [m 12 (.t 6) 0, o 13 (.bin .add) [.t 12, .c (ci 1)] 1, m 6 (.t 13) 2])))
def c15_s1 : C := (.seq (.reg 0 none [o 28 (.build [(ci 0), (ci 0)] []) [] 0, ⟨none, .store 2, [.t 4, .t 28], none, 0, 1⟩, m 5 (.c cf) 2]) .ret)
def c15_1 : C := (.seq (.reg 2 none [o 2 (.box 0) [.t 0] 0, o 4 (.alloc 1 [(ci 0), (ci 0)]) [] 1, m 5 (.c cf) 2]) (.seq (.seq (.reg 0 none [m 6 (.c (ci 0)) 0]) (.blk 0 (.loop 1073741910 false c15_2))) c15_s1))
def c15 : Fn := { fid := 15, np := 2, ntmps := 29, body := (.jn 536870915 c15_1), res := [.cell 4 true 2, .tmp 5] }
def d15_1 (c : Cx) (t0 t1 : V) (H : List Blk) : X := stepK c.pc c.ic c.n (.jn 536870915 c15_1) (cn 0 29 [(0, t0), (1, t1)]) H (kTop c15.res)
def k15_1 (c : Cx) : KT := thenK (stepK c.pc c.ic c.n c15_s1) (kTop c15.res)
def k15_2 (c : Cx) : KT := blkK 0 (k15_1 c)
def d15_2 (c : Cx) (m n2 : Nat) (t1 t2 t4 t6 : V) (H : List Blk) : X := jnK (loopsK (stepK c.pc c.ic c.n c15_2) 1073741910 false n2 m) (cn 0 29 [(1, t1), (2, t2), (4, t4), (6, t6)]) H (k15_2 c) 1073741910
def b15_2 (c : Cx) (r2 : F4) (n2 : Nat) (t1 t2 t4 t6 : V) (H : List Blk) : X := p (aFld 2 t2) fun x1 => (aLoad false 1 x1).go H fun x2 H => (aLen 1 x2).go H fun x3 H => p (aBin .lss t6 x3) fun x4 => condK x4 ((fun (t1 t2 t4 t6 : V) (H : L) (r2 : F4) => p (aFld 2 t2) fun x5 => (aLoad false 1 x5).go H fun x6 H => (fun (t1 t2 t4 t6 x6 : V) (H : L) (r2 : F4) => p (aIx 3 x6 t6) fun x7 => p (aFld 2 x7) fun x8 => (aLoad false 1 x8).go H fun x9 H => p (aBin .eql x9 t1) fun x10 => condK x10 ((fun (t2 t4 t6 : V) (H : L) => p (aFld 2 t2) fun x11 => (aLoad false 1 x11).go H fun x12 H => (fun (t4 t6 x12 : V) (H : L) => p (aIx 3 x12 t6) fun x13 => p (aFld 0 x13) fun x14 => (aLoad true 2 x14).go H fun x15 H => (aStore 2 t4 x15).go H fun _ H => bnd (loadV true 2 t4 H) fun x16 => some (.tup [x16, ct], H)) t4 t6 x12 H) t2 t4 t6 H) (p (aBin .add t6 (ci 1)) fun x17 => r2 t1 t2 t4 x17 H)) t1 t2 t4 t6 x6 H r2) t1 t2 t4 t6 H r2) (p (aBuild [(ci 0), (ci 0)] [] []) fun x18 => (aStore 2 t4 x18).go H fun _ H => bnd (loadV true 2 t4 H) fun x19 => some (.tup [x19, cf], H))
def j15_2 (c : Cx) : Nat → Nat → F4 := recN (fun _ _ _ _ _ _ => none) fun ih n2 => b15_2 c (ih n2) n2
theorem o15_2 (c : Cx) : d15_2 c = j15_2 c := by
  unfold j15_2
  refine recN_ok (by kernel_rfl) fun m => funext fun n2 => ?_
  funext t1 t2 t4 t6 H
  refine Eq.trans (jnK_eq 1073741910 _ _ H _) ?_
  kernel_rfl
def b15_1 (c : Cx) (j2 : Nat → Nat → F4) (t0 t1 : V) (H : List Blk) : X := newK 2 H fun q H => (aBox (q + 0) t0).go H fun x1 H => (aAlloc (q + 1) [(ci 0), (ci 0)]).go H fun x2 H => j2 c.n H.length t1 x1 x2 (ci 0) H
def j15_1 (c : Cx) : F2 := b15_1 c (j15_2 c)
theorem o15_1 (c : Cx) : d15_1 c = j15_1 c := by
  unfold j15_1; rw [← o15_2]
  funext t0 t1 H
  refine Eq.trans (stepK_jn c.pc c.ic c.n _ H _ 536870915 c15_1) ?_
  kernel_rfl
def b15_0 (c : Cx) (j1 : F2) (t0 t1 : V) (H : List Blk) : X := j1 t0 t1 H
def s15 (c : Cx) (args : List V) (H : List Blk) : X := argsK 2 args (b15_0 c (j15_1 c) (getT args 0) (getT args 1) H)
theorem e15 (pc ic n args H) : runK pc ic n c15 args H = s15 ⟨pc, ic, n⟩ args H := by
  unfold s15; rw [← o15_1]
  kernel_rfl
def L15 : Leaf := ⟨c15, fun pc ic n => s15 ⟨pc, ic, n⟩, e15⟩
theorem kk15 : chkFn Go.Proofs.Tryz.prog ET 15 c15 = true := by kernel_rfl

def c16_2 : C := (.seq (.seq (.reg 0 none [m 7 (.t 6) 0, o 8 (.fld 3) [.t 2] 1, o 9 (.load false 1) [.t 8] 2, o 10 (.len 1) [.t 9] 3, o 11 (.bin .lss) [.t 7, .t 10] 4]) (.cond (.t 11) .skip (.exit 0))) (.seq (.blk 1 (.seq (.reg 0 none [o 14 (.fld 3) [.t 2] 0, o 15 (.load false 1) [.t 14] 1, m 16 (.t 6) 2, o 17 (.ix 8) [.t 15, .t 16] 3, o 18 (.fld 0) [.t 17] 4, o 19 (.load false 1) [.t 18] 5, m 20 (.t 1) 6, o 21 (.bin .eql) [.t 19, .t 20] 7]) (.cond (.t 21) (.seq (.reg 0 none [o 22 (.fld 3) [.t 2] 0, o 23 (.load false 1) [.t 22] 1, m 24 (.t 6) 2, o 25 (.ix 8) [.t 23, .t 24] 3, o 26 (.load true 8) [.t 25] 4, o 27 (.call 49) [.t 26] 5, ⟨none, .store 8, [.t 4, .t 27], none, 0, 6⟩, m 5 (.c ct) 7]) .ret) .skip))) (.reg 0 none [m 12 (.t 6) 0, o 13 (.bin .add) [.t 12, .c (ci 1)] 1, m 6 (.t 13) 2])))
def c16_s1 : C := (.seq (.reg 0 none [o 28 (.build z1 []) [] 0, ⟨none, .store 8, [.t 4, .t 28], none, 0, 1⟩, m 5 (.c cf) 2]) .ret)
def c16_1 : C := (.seq (.reg 2 none [o 2 (.box 0) [.t 0] 0, o 4 (.alloc 1 z1) [] 1, m 5 (.c cf) 2]) (.seq (.seq (.reg 0 none [m 6 (.c (ci 0)) 0]) (.blk 0 (.loop 1073741910 false c16_2))) c16_s1))
def c16 : Fn := { fid := 16, np := 2, ntmps := 29, body := (.jn 536870915 c16_1), res := [.cell 4 true 8, .tmp 5] }
def d16_1 (c : Cx) (t0 t1 : V) (H : List Blk) : X := stepK c.pc c.ic c.n (.jn 536870915 c16_1) (cn 0 29 [(0, t0), (1, t1)]) H (kTop c16.res)
def k16_1 (c : Cx) : KT := thenK (stepK c.pc c.ic c.n c16_s1) (kTop c16.res)
def k16_2 (c : Cx) : KT := blkK 0 (k16_1 c)
def d16_2 (c : Cx) (m n2 : Nat) (t1 t2 t4 t6 : V) (H : List Blk) : X := jnK (loopsK (stepK c.pc c.ic c.n c16_2) 1073741910 false n2 m) (cn 0 29 [(1, t1), (2, t2), (4, t4), (6, t6)]) H (k16_2 c) 1073741910
def b16_2 (c : Cx) (r2 : F4) (n2 : Nat) (t1 t2 t4 t6 : V) (H : List Blk) : X := p (aFld 3 t2) fun x1 => (aLoad false 1 x1).go H fun x2 H => (aLen 1 x2).go H fun x3 H => p (aBin .lss t6 x3) fun x4 => condK x4 ((fun (t1 t2 t4 t6 : V) (H : L) (c : Cx) (r2 : F4) => p (aFld 3 t2) fun x5 => (aLoad false 1 x5).go H fun x6 H => (fun (t1 t2 t4 t6 x6 : V) (H : L) (c : Cx) (r2 : F4) => p (aIx 8 x6 t6) fun x7 => p (aFld 0 x7) fun x8 => (aLoad false 1 x8).go H fun x9 H => p (aBin .eql x9 t1) fun x10 => condK x10 ((fun (t2 t4 t6 : V) (H : L) (c : Cx) => p (aFld 3 t2) fun x11 => (aLoad false 1 x11).go H fun x12 H => (fun (t4 t6 x12 : V) (H : L) (c : Cx) => p (aIx 8 x12 t6) fun x13 => (aLoad true 8 x13).go H fun x14 H => p (aCall c.pc 49 [x14]) fun x15 => (aStore 8 t4 x15).go H fun _ H => bnd (loadV true 8 t4 H) fun x16 => some (.tup [x16, ct], H)) t4 t6 x12 H c) t2 t4 t6 H c) (p (aBin .add t6 (ci 1)) fun x17 => r2 t1 t2 t4 x17 H)) t1 t2 t4 t6 x6 H c r2) t1 t2 t4 t6 H c r2) (p (aBuild z1 [] []) fun x18 => (aStore 8 t4 x18).go H fun _ H => bnd (loadV true 8 t4 H) fun x19 => some (.tup [x19, cf], H))
def j16_2 (c : Cx) : Nat → Nat → F4 := recN (fun _ _ _ _ _ _ => none) fun ih n2 => b16_2 c (ih n2) n2
theorem o16_2 (c : Cx) : d16_2 c = j16_2 c := by
  unfold j16_2
  refine recN_ok (by kernel_rfl) fun m => funext fun n2 => ?_
  funext t1 t2 t4 t6 H
  refine Eq.trans (jnK_eq 1073741910 _ _ H _) ?_
  kernel_rfl
def b16_1 (c : Cx) (j2 : Nat → Nat → F4) (t0 t1 : V) (H : List Blk) : X := newK 2 H fun q H => (aBox (q + 0) t0).go H fun x1 H => (aAlloc (q + 1) z1).go H fun x2 H => j2 c.n H.length t1 x1 x2 (ci 0) H
def j16_1 (c : Cx) : F2 := b16_1 c (j16_2 c)
theorem o16_1 (c : Cx) : d16_1 c = j16_1 c := by
  unfold j16_1; rw [← o16_2]
  funext t0 t1 H
  refine Eq.trans (stepK_jn c.pc c.ic c.n _ H _ 536870915 c16_1) ?_
  kernel_rfl
def b16_0 (c : Cx) (j1 : F2) (t0 t1 : V) (H : List Blk) : X := j1 t0 t1 H
def s16 (c : Cx) (args : List V) (H : List Blk) : X := argsK 2 args (b16_0 c (j16_1 c) (getT args 0) (getT args 1) H)
theorem e16 (pc ic n args H) : runK pc ic n c16 args H = s16 ⟨pc, ic, n⟩ args H := by
  unfold s16; rw [← o16_1]
  kernel_rfl
def L16 : Leaf := ⟨c16, fun pc ic n => s16 ⟨pc, ic, n⟩, e16⟩
theorem kk16 : chkFn Go.Proofs.Tryz.prog ET 16 c16 = true := by kernel_rfl

def c18_1 : C := (.seq (.reg 0 none [m 0 (.c cf) 0]) (.seq (.reg 1 none [o 10 (.call 10) [.c (ci 2)] 0, o 1 (.alloc 0 z14) [] 1, ⟨none, .store 7, [.t 1, .t 10], none, 0, 2⟩]) (.seq (.reg 1 none [o 12 (.load true 7) [.t 1] 0, o 13 (.bsl 1 [(.str [])] 1 [0]) [.c (.d (.str [102]))] 1, o 14 (.call 11) [.t 12, .t 13] 2, m 11 (.t 14) 3, o 15 (.ext 0) [.t 11] 4, o 16 (.ext 1) [.t 11] 5, o 2 (.alloc 0 z14) [] 6, ⟨none, .store 7, [.t 2, .t 15], none, 0, 7⟩, m 3 (.t 16) 8]) (.seq (.reg 0 none [o 18 (.load true 7) [.t 2] 0, o 19 (.bsl 1 [(.str [])] 1 [0]) [.c (.d (.str [102]))] 1, o 20 (.call 13) [.t 18, .t 19] 2, m 17 (.t 20) 3, o 21 (.ext 0) [.t 17] 4, o 22 (.ext 1) [.t 17] 5, o 23 (.ext 2) [.t 17] 6, m 4 (.t 21) 7, m 5 (.t 22) 8, m 6 (.t 23) 9]) (.seq (.reg 0 none [o 25 (.load true 7) [.t 2] 0, o 26 (.bsl 1 [(.str [])] 2 [0, 1]) [.c (.d (.str [100])), .c (.d (.str [103]))] 1, o 27 (.call 13) [.t 25, .t 26] 2, m 24 (.t 27) 3, o 28 (.ext 0) [.t 24] 4, o 29 (.ext 1) [.t 24] 5, o 30 (.ext 2) [.t 24] 6, m 7 (.t 28) 7, m 8 (.t 29) 8, m 9 (.t 30) 9]) (.seq (.reg 0 none [m 31 (.t 3) 0, o 32 (.bin .eql) [.t 31, .c (ci 0)] 1, m 33 (.t 32) 2, ⟨some 34, .mov, [.t 6], some (33, true), 0, 3⟩, ⟨some 35, .bin .eql, [.t 34, .c (ci 2)], some (33, true), 0, 4⟩, o 36 .pick [.t 33, .t 35, .c cf] 5, m 37 (.t 36) 6, ⟨some 38, .mov, [.t 9], some (37, true), 0, 7⟩, ⟨some 39, .bin .eql, [.t 38, .c (ci 0)], some (37, true), 0, 8⟩, o 40 .pick [.t 37, .t 39, .c cf] 9, m 0 (.t 40) 10]) .ret))))))
def c18 : Fn := { fid := 18, np := 0, ntmps := 41, body := (.jn 2199023255552 c18_1), res := [.tmp 0] }
def d18_1 (c : Cx) (H : List Blk) : X := stepK c.pc c.ic c.n (.jn 2199023255552 c18_1) (cn 0 41 []) H (kTop c18.res)
def b18_1 (c : Cx) (H : List Blk) : X := newK 1 H fun q H => p (aCall c.pc 10 [(ci 2)]) fun x1 => (aAlloc (q + 0) z14).go H fun x2 H => (aStore 7 x2 x1).go H fun _ H => newK 1 H fun q H => (aLoad true 7 x2).go H fun x3 H => p (aBsl 1 [(.str [])] 1 [0] [(.d (.str [102]))]) fun x4 => p (aCall c.pc 11 [x3, x4]) fun x5 => (fun (x5 : V) (q : Nat) (H : L) (c : Cx) => p (aExt 0 x5) fun x6 => p (aExt 1 x5) fun x7 => (aAlloc (q + 0) z14).go H fun x8 H => (aStore 7 x8 x6).go H fun _ H => (aLoad true 7 x8).go H fun x9 H => p (aBsl 1 [(.str [])] 1 [0] [(.d (.str [102]))]) fun x10 => (fun (x7 x8 x9 x10 : V) (H : L) (c : Cx) => p (aCall c.pc 13 [x9, x10]) fun x11 => p (aExt 0 x11) fun x12 => p (aExt 1 x11) fun x13 => p (aExt 2 x11) fun x14 => (aLoad true 7 x8).go H fun x15 H => p (aBsl 1 [(.str [])] 2 [0, 1] [(.d (.str [100])), (.d (.str [103]))]) fun x16 => (fun (x7 x14 x15 x16 : V) (H : L) (c : Cx) => p (aCall c.pc 13 [x15, x16]) fun x17 => p (aExt 0 x17) fun x18 => p (aExt 1 x17) fun x19 => p (aExt 2 x17) fun x20 => p (aBin .eql x7 (ci 0)) fun x21 => guardK x21 true (fun k => (aMov x14).go H k) H fun x22 H => guardK x21 true (fun k => (aBin .eql x22 (ci 2)).go H k) H fun x23 H => (fun (x20 x21 x23 : V) (H : L) => p (aPick x21 x23 cf) fun x24 => guardK x24 true (fun k => (aMov x20).go H k) H fun x25 H => guardK x24 true (fun k => (aBin .eql x25 (ci 0)).go H k) H fun x26 H => p (aPick x24 x26 cf) fun x27 => some (x27, H)) x20 x21 x23 H) x7 x14 x15 x16 H c) x7 x8 x9 x10 H c) x5 q H c
def j18_1 (c : Cx) : F0 := b18_1 c
theorem o18_1 (c : Cx) : d18_1 c = j18_1 c := by
  unfold j18_1
  funext H
  refine Eq.trans (stepK_jn c.pc c.ic c.n _ H _ 2199023255552 c18_1) ?_
  kernel_rfl
def b18_0 (c : Cx) (j1 : F0) (H : List Blk) : X := j1 H
def s18 (c : Cx) (args : List V) (H : List Blk) : X := argsK 0 args (b18_0 c (j18_1 c) H)
theorem e18 (pc ic n args H) : runK pc ic n c18 args H = s18 ⟨pc, ic, n⟩ args H := by
  unfold s18; rw [← o18_1]
  kernel_rfl
def L18 : Leaf := ⟨c18, fun pc ic n => s18 ⟨pc, ic, n⟩, e18⟩
theorem kk18 : chkFn Go.Proofs.Tryz.prog ET 18 c18 = true := by kernel_rfl

def c19_2 : C := (.seq (.reg 0 (some ⟨true, [0, 2, 1, 3], 39⟩) [m 37 (.t 6) 0, o 38 (.load true 8) [.t 8] 1, ⟨some 4, .mov, [.t 37], none, 1, 2⟩, ⟨none, .store 8, [.t 5, .t 38], none, 7, 3⟩]) .ret)
def c19_1 : C := (.seq (.reg 3 none [o 2 (.box 0) [.t 0] 0, o 3 (.box 1) [.t 1] 1, m 4 (.c (ci 0)) 2, o 5 (.alloc 2 z1) [] 3]) (.seq (.reg 0 none [o 12 (.fld 3) [.t 2] 0, o 13 (.load true 4) [.t 12] 1, o 14 (.load true 2) [.t 3] 2, o 15 (.call 14) [.t 13, .t 14] 3, m 11 (.t 15) 4, o 16 (.ext 0) [.t 11] 5, o 17 (.ext 1) [.t 11] 6, m 6 (.t 16) 7, m 7 (.t 17) 8]) (.seq (.reg 1 none [o 18 (.load true 7) [.t 2] 0, o 19 (.load true 2) [.t 3] 1, o 20 (.call 50) [.t 18, .t 19] 2, o 8 (.alloc 0 z1) [] 3, ⟨none, .store 8, [.t 8, .t 20], none, 0, 4⟩]) (.seq (.seq (.reg 0 none [o 21 (.fld 1) [.t 8] 0, o 22 (.load false 1) [.t 21] 1, o 23 (.bin .eql) [.t 22, .c (ci 2)] 2]) (.cond (.t 23) (.seq (.reg 0 (some ⟨true, [0, 2, 1, 3], 39⟩) [m 24 (.t 6) 0, o 25 (.load true 8) [.t 8] 1, ⟨some 4, .mov, [.t 24], none, 1, 2⟩, ⟨none, .store 8, [.t 5, .t 25], none, 7, 3⟩]) .ret) .skip)) (.seq (.reg 1 none [o 27 (.fld 3) [.t 2] 0, o 28 (.load true 4) [.t 27] 1, m 29 (.t 6) 2, o 30 (.call 15) [.t 28, .t 29] 3, m 26 (.t 30) 4, o 31 (.ext 0) [.t 26] 5, o 32 (.ext 1) [.t 26] 6, o 9 (.alloc 0 [(ci 0), (ci 0)]) [] 7, ⟨none, .store 2, [.t 9, .t 31], none, 0, 8⟩, m 10 (.t 32) 9]) (.seq (.seq (.reg 0 none [m 33 (.t 10) 0]) (.cond (.t 33) (.reg 0 none [o 34 (.load true 7) [.t 2] 0, o 35 (.load true 2) [.t 9] 1, o 36 (.call 50) [.t 34, .t 35] 2, ⟨none, .store 8, [.t 8, .t 36], none, 0, 3⟩]) .skip)) (.jn 1099511628128 c19_2)))))))
def c19 : Fn := { fid := 19, np := 2, ntmps := 39, body := (.jn 549755813891 c19_1), res := [.tmp 4, .cell 5 true 8] }
def d19_1 (c : Cx) (t0 t1 : V) (H : List Blk) : X := stepK c.pc c.ic c.n (.jn 549755813891 c19_1) (cn 0 39 [(0, t0), (1, t1)]) H (kTop c19.res)
def d19_2 (c : Cx) (t5 t6 t8 : V) (H : List Blk) : X := stepK c.pc c.ic c.n (.jn 1099511628128 c19_2) (cn 0 39 [(5, t5), (6, t6), (8, t8)]) H (kTop c19.res)
def b19_2 (c : Cx) (t5 t6 t8 : V) (H : List Blk) : X := (aLoad true 8 t8).go H fun x1 H => (aStore 8 t5 x1).go H fun _ H => bnd (loadV true 8 t5 H) fun x2 => some (.tup [t6, x2], H)
def j19_2 (c : Cx) : F3 := b19_2 c
theorem o19_2 (c : Cx) : d19_2 c = j19_2 c := by
  unfold j19_2
  funext t5 t6 t8 H
  refine Eq.trans (stepK_jn c.pc c.ic c.n _ H _ 1099511628128 c19_2) ?_
  kernel_rfl
def b19_1 (c : Cx) (j2 : F3) (t0 t1 : V) (H : List Blk) : X := newK 3 H fun q H => (aBox (q + 0) t0).go H fun x1 H => (aBox (q + 1) t1).go H fun x2 H => (aAlloc (q + 2) z1).go H fun x3 H => p (aFld 3 x1) fun x4 => (aLoad true 4 x4).go H fun x5 H => (fun (x1 x2 x3 x5 : V) (H : L) (c : Cx) (j2 : F3) => (aLoad true 2 x2).go H fun x6 H => p (aCall c.pc 14 [x5, x6]) fun x7 => p (aExt 0 x7) fun x8 => p (aExt 1 x7) fun x9 => newK 1 H fun q H => (aLoad true 7 x1).go H fun x10 H => (fun (x1 x2 x3 x8 x10 : V) (q : Nat) (H : L) (c : Cx) (j2 : F3) => (aLoad true 2 x2).go H fun x11 H => p (aCall c.pc 50 [x10, x11]) fun x12 => (aAlloc (q + 0) z1).go H fun x13 H => (aStore 8 x13 x12).go H fun _ H => p (aFld 1 x13) fun x14 => (aLoad false 1 x14).go H fun x15 H => p (aBin .eql x15 (ci 2)) fun x16 => condK x16 ((aLoad true 8 x13).go H fun x17 H => (aStore 8 x3 x17).go H fun _ H => bnd (loadV true 8 x3 H) fun x18 => some (.tup [x8, x18], H)) ((fun (x1 x3 x8 x13 : V) (H : L) (c : Cx) (j2 : F3) => newK 1 H fun q H => p (aFld 3 x1) fun x19 => (aLoad true 4 x19).go H fun x20 H => p (aCall c.pc 15 [x20, x8]) fun x21 => (fun (x1 x3 x8 x13 x21 : V) (q : Nat) (H : L) (c : Cx) (j2 : F3) => p (aExt 0 x21) fun x22 => p (aExt 1 x21) fun x23 => (aAlloc (q + 0) [(ci 0), (ci 0)]).go H fun x24 H => (aStore 2 x24 x22).go H fun _ H => condK x23 ((fun (x1 x3 x8 x13 x24 : V) (H : L) (c : Cx) (j2 : F3) => (aLoad true 7 x1).go H fun x25 H => (aLoad true 2 x24).go H fun x26 H => p (aCall c.pc 50 [x25, x26]) fun x27 => (aStore 8 x13 x27).go H fun _ H => j2 x3 x8 x13 H) x1 x3 x8 x13 x24 H c j2) (j2 x3 x8 x13 H)) x1 x3 x8 x13 x21 q H c j2) x1 x3 x8 x13 H c j2)) x1 x2 x3 x8 x10 q H c j2) x1 x2 x3 x5 H c j2
def j19_1 (c : Cx) : F2 := b19_1 c (j19_2 c)
theorem o19_1 (c : Cx) : d19_1 c = j19_1 c := by
  unfold j19_1; rw [← o19_2]
  funext t0 t1 H
  refine Eq.trans (stepK_jn c.pc c.ic c.n _ H _ 549755813891 c19_1) ?_
  kernel_rfl
def b19_0 (c : Cx) (j1 : F2) (t0 t1 : V) (H : List Blk) : X := j1 t0 t1 H
def s19 (c : Cx) (args : List V) (H : List Blk) : X := argsK 2 args (b19_0 c (j19_1 c) (getT args 0) (getT args 1) H)
theorem e19 (pc ic n args H) : runK pc ic n c19 args H = s19 ⟨pc, ic, n⟩ args H := by
  unfold s19; rw [← o19_1]
  kernel_rfl
def L19 : Leaf := ⟨c19, fun pc ic n => s19 ⟨pc, ic, n⟩, e19⟩
theorem kk19 : chkFn Go.Proofs.Tryz.prog ET 19 c19 = true := by kernel_rfl

def c20_1 : C := (.seq (.reg 2 none [o 1 (.box 0) [.t 0] 0, o 2 (.alloc 1 z0) [] 1]) (.seq (.seq (.reg 0 none [o 3 (.fld 2) [.t 1] 0, o 4 (.load false 1) [.t 3] 1, o 5 (.len 1) [.t 4] 2, o 6 (.bin .eql) [.t 5, .c (ci 0)] 3]) (.cond (.t 6) (.seq (.reg 0 none [o 7 (.build z0 []) [] 0, ⟨none, .store 4, [.t 2, .t 7], none, 0, 1⟩]) .ret) .skip)) (.seq (.reg 0 (some ⟨true, [], 16⟩) [o 8 (.load true 7) [.t 1] 0, o 9 (.fld 3) [.t 1] 1, ⟨some 10, .fld 0, [.t 9], none, 2, 2⟩, ⟨some 11, .load false 1, [.t 10], none, 6, 3⟩, ⟨some 12, .build z0 z19, [.c (ci 1048576), .c (ci 4096), .t 11], none, 14, 4⟩, o 13 (.load true 7) [.t 1] 5, ⟨some 14, .call 45, [.t 13], none, 32, 6⟩, ⟨some 15, .call 51, [.t 8, .t 12, .t 14], none, 127, 7⟩, ⟨none, .store 4, [.t 2, .t 15], none, 255, 8⟩]) .ret)))
def c20 : Fn := { fid := 20, np := 1, ntmps := 16, body := (.jn 65537 c20_1), res := [.cell 2 true 4] }
def d20_1 (c : Cx) (t0 : V) (H : List Blk) : X := stepK c.pc c.ic c.n (.jn 65537 c20_1) (cn 0 16 [(0, t0)]) H (kTop c20.res)
def b20_1 (c : Cx) (t0 : V) (H : List Blk) : X := newK 2 H fun q H => (aBox (q + 0) t0).go H fun x1 H => (aAlloc (q + 1) z0).go H fun x2 H => p (aFld 2 x1) fun x3 => (aLoad false 1 x3).go H fun x4 H => (aLen 1 x4).go H fun x5 H => p (aBin .eql x5 (ci 0)) fun x6 => condK x6 (p (aBuild z0 [] []) fun x7 => (aStore 4 x2 x7).go H fun _ H => bnd (loadV true 4 x2 H) fun x8 => some (x8, H)) ((fun (x1 x2 : V) (H : L) (c : Cx) => (aLoad true 7 x1).go H fun x9 H => (fun (x1 x2 x9 : V) (H : L) (c : Cx) => p (aFld 3 x1) fun x10 => p (aFld 0 x10) fun x11 => (aLoad false 1 x11).go H fun x12 H => p (aBuild z0 z19 [(ci 1048576), (ci 4096), x12]) fun x13 => (fun (x1 x2 x9 x13 : V) (H : L) (c : Cx) => (aLoad true 7 x1).go H fun x14 H => p (aCall c.pc 45 [x14]) fun x15 => p (aCall c.pc 51 [x9, x13, x15]) fun x16 => (aStore 4 x2 x16).go H fun _ H => bnd (loadV true 4 x2 H) fun x17 => some (x17, H)) x1 x2 x9 x13 H c) x1 x2 x9 H c) x1 x2 H c)
def j20_1 (c : Cx) : F1 := b20_1 c
theorem o20_1 (c : Cx) : d20_1 c = j20_1 c := by
  unfold j20_1
  funext t0 H
  refine Eq.trans (stepK_jn c.pc c.ic c.n _ H _ 65537 c20_1) ?_
  kernel_rfl
def b20_0 (c : Cx) (j1 : F1) (t0 : V) (H : List Blk) : X := j1 t0 H
def s20 (c : Cx) (args : List V) (H : List Blk) : X := argsK 1 args (b20_0 c (j20_1 c) (getT args 0) H)
theorem e20 (pc ic n args H) : runK pc ic n c20 args H = s20 ⟨pc, ic, n⟩ args H := by
  unfold s20; rw [← o20_1]
  kernel_rfl
def L20 : Leaf := ⟨c20, fun pc ic n => s20 ⟨pc, ic, n⟩, e20⟩
theorem kk20 : chkFn Go.Proofs.Tryz.prog ET 20 c20 = true := by kernel_rfl

def c30_3 : C := (.seq (.seq (.reg 0 none [m 23 (.t 7) 0, m 24 (.t 1) 1, o 25 (.len 1) [.t 24] 2, o 26 (.bin .lss) [.t 23, .t 25] 3]) (.cond (.t 26) .skip (.exit 0))) (.seq (.blk 1 (.reg 1 (some ⟨true, [], 63⟩) [o 29 (.fld 2) [.t 6] 0, ⟨some 30, .load false 1, [.t 29], none, 1, 1⟩, m 31 (.t 1) 2, m 32 (.t 7) 3, ⟨some 33, .ix 4, [.t 31, .t 32], none, 12, 4⟩, ⟨some 34, .load true 4, [.t 33], none, 28, 5⟩, ⟨some 35, .call 72, [.t 34], none, 60, 6⟩, ⟨some 36, .bsl 4 z15 1 [0], [.t 35], none, 124, 7⟩, ⟨some 37, .app 0 4 48, [.t 30, .t 36], none, 255, 8⟩, ⟨some 38, .fld 2, [.t 6], none, 511, 9⟩, ⟨none, .store 1, [.t 38, .t 37], none, 1023, 10⟩])) (.reg 0 none [m 27 (.t 7) 0, o 28 (.bin .add) [.t 27, .c (ci 1)] 1, m 7 (.t 28) 2])))
def c30_s1 : C := (.seq (.reg 1 none [m 40 (.t 1) 0, o 41 (.ix 4) [.t 40, .c (ci 0)] 1, o 42 (.load true 4) [.t 41] 2, o 43 (.call 73) [.t 42] 3, m 39 (.t 43) 4, o 44 (.ext 0) [.t 39] 5, o 45 (.ext 1) [.t 39] 6, o 8 (.alloc 0 z10) [] 7, ⟨none, .store 4, [.t 8, .t 44], none, 0, 8⟩, m 9 (.t 45) 9]) (.seq (.reg 0 none [o 46 (.load true 4) [.t 8] 0, o 47 (.fld 3) [.t 6] 1, ⟨none, .store 4, [.t 47, .t 46], none, 0, 2⟩]) (.seq (.seq (.reg 0 none [m 48 (.t 9) 0, o 49 (.bin .eql) [.t 48, .c (ci 2)] 1]) (.cond (.t 49) (.seq (.reg 0 none [o 50 (.load true 7) [.t 6] 0, o 51 (.call 74) [.t 50] 1, o 52 (.ext 0) [.t 51] 2, o 53 (.ext 1) [.t 51] 3, ⟨none, .store 7, [.t 4, .t 52], none, 0, 4⟩, m 5 (.t 53) 5]) .ret) .skip)) (.seq (.seq (.reg 0 none [m 54 (.t 9) 0, o 55 (.bin .neq) [.t 54, .c (ci 0)] 1, m 56 (.t 55) 2, ⟨some 57, .load true 7, [.t 6], some (56, false), 0, 3⟩, ⟨some 58, .call 75, [.t 57], some (56, false), 0, 4⟩, ⟨some 59, .un .not, [.t 58], some (56, false), 0, 5⟩, o 60 .pick [.t 56, .c ct, .t 59] 6]) (.cond (.t 60) (.seq (.reg 0 none [o 61 (.build z14 []) [] 0, ⟨none, .store 7, [.t 4, .t 61], none, 0, 1⟩, m 5 (.c (ci 11)) 2]) .ret) .skip)) (.seq (.reg 0 none [o 62 (.load true 7) [.t 6] 0, ⟨none, .store 7, [.t 4, .t 62], none, 0, 1⟩, m 5 (.c (ci 0)) 2]) .ret)))))
def c30_2 : C := (.seq (.seq (.reg 0 none [m 7 (.c (ci 0)) 0]) (.blk 0 (.loop 27670116110564327634 false c30_3))) c30_s1)
def l30_0 : List O := [o 15 (.bsl 1 [(.int .i64 0)] 0 []) [] 0, o 16 (.fld 0) [.t 2] 1, ⟨some 17, .load false 1, [.t 16], none, 2, 2⟩, ⟨some 18, .app 0 1 8, [.t 15, .t 17], none, 7, 3⟩, o 19 (.fld 1) [.t 2] 4, ⟨some 20, .load false 1, [.t 19], none, 16, 5⟩, ⟨some 21, .build [.nilS, (ci 0)] [(0, 1), (1, 1)], [.t 18, .t 20], none, 63, 6⟩, ⟨some 22, .build z14 [(0, 2)], [.t 21], none, 127, 7⟩, o 6 (.alloc 1 z14) [] 8, ⟨none, .store 7, [.t 6, .t 22], none, 511, 9⟩]
def c30_1 : C := (.seq (.reg 2 none [o 2 (.box 0) [.t 0] 0, o 4 (.alloc 1 z14) [] 1, m 5 (.c (ci 0)) 2]) (.seq (.seq (.reg 0 none [o 10 (.load true 2) [.t 2] 0, m 11 (.t 1) 1, o 12 (.call 71) [.t 10, .t 11] 2, o 13 (.un .not) [.t 12] 3]) (.cond (.t 13) (.seq (.reg 0 none [o 14 (.build z14 []) [] 0, ⟨none, .store 7, [.t 4, .t 14], none, 0, 1⟩, m 5 (.c (ci 1)) 2]) .ret) .skip)) (.seq (.reg 2 (some ⟨false, [], 63⟩) l30_0) (.jn 18446744073709551698 c30_2))))
def c30 : Fn := { fid := 30, np := 2, ntmps := 63, body := (.jn 9223372036854775811 c30_1), res := [.cell 4 true 7, .tmp 5] }
def d30_1 (c : Cx) (t0 t1 : V) (H : List Blk) : X := stepK c.pc c.ic c.n (.jn 9223372036854775811 c30_1) (cn 0 63 [(0, t0), (1, t1)]) H (kTop c30.res)
def d30_2 (c : Cx) (t1 t4 t6 : V) (H : List Blk) : X := stepK c.pc c.ic c.n (.jn 18446744073709551698 c30_2) (cn 0 63 [(1, t1), (4, t4), (6, t6)]) H (kTop c30.res)
def k30_1 (c : Cx) : KT := thenK (stepK c.pc c.ic c.n c30_s1) (kTop c30.res)
def k30_2 (c : Cx) : KT := blkK 0 (k30_1 c)
def d30_3 (c : Cx) (m n3 : Nat) (t1 t4 t6 t7 : V) (H : List Blk) : X := jnK (loopsK (stepK c.pc c.ic c.n c30_3) 27670116110564327634 false n3 m) (cn 0 63 [(1, t1), (4, t4), (6, t6), (7, t7)]) H (k30_2 c) 27670116110564327634
def b30_3 (c : Cx) (r3 : F4) (n3 : Nat) (t1 t4 t6 t7 : V) (H : List Blk) : X := (aLen 1 t1).go H fun x1 H => p (aBin .lss t7 x1) fun x2 => condK x2 ((fun (t1 t4 t6 t7 : V) (H : L) (c : Cx) (r3 : F4) => newK 1 H fun q H => p (aFld 2 t6) fun x3 => (fun (t1 t4 t6 t7 x3 : V) (q : Nat) (H : L) (c : Cx) (r3 : F4) => (aLoad false 1 x3).go H fun x4 H => p (aIx 4 t1 t7) fun x5 => (aLoad true 4 x5).go H fun x6 H => p (aCall c.pc 72 [x6]) fun x7 => (fun (t1 t4 t6 t7 x4 x7 : V) (q : Nat) (H : L) (r3 : F4) => p (aBsl 4 z15 1 [0] [x7]) fun x8 => (aApp (q + 0) 4 48 x4 x8).go H fun x9 H => p (aFld 2 t6) fun x10 => (aStore 1 x10 x9).go H fun _ H => p (aBin .add t7 (ci 1)) fun x11 => r3 t1 t4 t6 x11 H) t1 t4 t6 t7 x4 x7 q H r3) t1 t4 t6 t7 x3 q H c r3) t1 t4 t6 t7 H c r3) ((fun (t1 t4 t6 : V) (H : L) (c : Cx) => newK 1 H fun q H => p (aIx 4 t1 (ci 0)) fun x12 => (aLoad true 4 x12).go H fun x13 H => p (aCall c.pc 73 [x13]) fun x14 => (fun (t4 t6 x14 : V) (q : Nat) (H : L) (c : Cx) => p (aExt 0 x14) fun x15 => p (aExt 1 x14) fun x16 => (aAlloc (q + 0) z10).go H fun x17 H => (aStore 4 x17 x15).go H fun _ H => (aLoad true 4 x17).go H fun x18 H => p (aFld 3 t6) fun x19 => (aStore 4 x19 x18).go H fun _ H => p (aBin .eql x16 (ci 2)) fun x20 => condK x20 ((fun (t4 t6 : V) (H : L) (c : Cx) => (aLoad true 7 t6).go H fun x21 H => (fun (t4 x21 : V) (H : L) (c : Cx) => p (aCall c.pc 74 [x21]) fun x22 => p (aExt 0 x22) fun x23 => p (aExt 1 x22) fun x24 => (aStore 7 t4 x23).go H fun _ H => bnd (loadV true 7 t4 H) fun x25 => some (.tup [x25, x24], H)) t4 x21 H c) t4 t6 H c) ((fun (t4 t6 x16 : V) (H : L) (c : Cx) => p (aBin .neq x16 (ci 0)) fun x26 => (fun (t4 t6 x26 : V) (H : L) (c : Cx) => guardK x26 false (fun k => (aLoad true 7 t6).go H k) H fun x27 H => guardK x26 false (fun k => (aCall c.pc 75 [x27]).go H k) H fun x28 H => guardK x26 false (fun k => (aUn .not x28).go H k) H fun x29 H => p (aPick x26 ct x29) fun x30 => condK x30 (p (aBuild z14 [] []) fun x31 => (aStore 7 t4 x31).go H fun _ H => bnd (loadV true 7 t4 H) fun x32 => some (.tup [x32, (ci 11)], H)) ((aLoad true 7 t6).go H fun x33 H => (aStore 7 t4 x33).go H fun _ H => bnd (loadV true 7 t4 H) fun x34 => some (.tup [x34, (ci 0)], H))) t4 t6 x26 H c) t4 t6 x16 H c)) t4 t6 x14 q H c) t1 t4 t6 H c)
def j30_3 (c : Cx) : Nat → Nat → F4 := recN (fun _ _ _ _ _ _ => none) fun ih n3 => b30_3 c (ih n3) n3
theorem o30_3 (c : Cx) : d30_3 c = j30_3 c := by
  unfold j30_3
  refine recN_ok (by kernel_rfl) fun m => funext fun n3 => ?_
  funext t1 t4 t6 t7 H
  refine Eq.trans (jnK_eq 27670116110564327634 _ _ H _) ?_
  kernel_rfl
def b30_2 (c : Cx) (j3 : Nat → Nat → F4) (t1 t4 t6 : V) (H : List Blk) : X := j3 c.n H.length t1 t4 t6 (ci 0) H
def j30_2 (c : Cx) : F3 := b30_2 c (j30_3 c)
theorem o30_2 (c : Cx) : d30_2 c = j30_2 c := by
  unfold j30_2; rw [← o30_3]
  funext t1 t4 t6 H
  refine Eq.trans (stepK_jn c.pc c.ic c.n _ H _ 18446744073709551698 c30_2) ?_
  kernel_rfl
def b30_1 (c : Cx) (j2 : F3) (t0 t1 : V) (H : List Blk) : X := newK 2 H fun q H => (aBox (q + 0) t0).go H fun x1 H => (aAlloc (q + 1) z14).go H fun x2 H => (aLoad true 2 x1).go H fun x3 H => p (aCall c.pc 71 [x3, t1]) fun x4 => p (aUn .not x4) fun x5 => condK x5 (p (aBuild z14 [] []) fun x6 => (aStore 7 x2 x6).go H fun _ H => bnd (loadV true 7 x2 H) fun x7 => some (.tup [x7, (ci 1)], H)) ((fun (t0 t1 x1 x2 x3 x4 x5 : V) (H : L) (c : Cx) (j2 : F3) => newK 2 H fun q H => drawnK c.pc c.ic l30_0 q (cn 0 63 [(0, t0), (1, t1), (2, x1), (4, x2), (5, (ci 0)), (10, x3), (11, t1), (12, x4), (13, x5)]) H fun ts7 H => j2 (getT ts7 1) (getT ts7 4) (getT ts7 6) H) t0 t1 x1 x2 x3 x4 x5 H c j2)
def j30_1 (c : Cx) : F2 := b30_1 c (j30_2 c)
theorem o30_1 (c : Cx) : d30_1 c = j30_1 c := by
  unfold j30_1; rw [← o30_2]
  funext t0 t1 H
  refine Eq.trans (stepK_jn c.pc c.ic c.n _ H _ 9223372036854775811 c30_1) ?_
  kernel_rfl
def b30_0 (c : Cx) (j1 : F2) (t0 t1 : V) (H : List Blk) : X := j1 t0 t1 H
def s30 (c : Cx) (args : List V) (H : List Blk) : X := argsK 2 args (b30_0 c (j30_1 c) (getT args 0) (getT args 1) H)
theorem e30 (pc ic n args H) : runK pc ic n c30 args H = s30 ⟨pc, ic, n⟩ args H := by
  unfold s30; rw [← o30_1]
  kernel_rfl
def L30 : Leaf := ⟨c30, fun pc ic n => s30 ⟨pc, ic, n⟩, e30⟩
theorem kk30 : chkFn Go.Proofs.Tryz.prog ET 30 c30 = true := by kernel_rfl

def c31 : Fn := { fid := 31, np := 2, ntmps := 10, body := (.seq (.reg 1 none [o 4 (.alloc 0 z0) [] 0]) (.seq (.reg 0 none [m 5 (.t 0) 0, m 6 (.t 1) 1, o 7 (.build z1 z2) [.c (ci 1), .c (ci 2), .c (ci 493), .c (ci 1)] 2, o 8 (.bsl 8 z3 1 [0]) [.t 7] 3, o 9 (.build z0 z2) [.t 5, .t 6, .c (ci 2), .t 8] 4, ⟨none, .store 4, [.t 4, .t 9], none, 0, 5⟩]) .ret)), res := [.cell 4 true 4] }
def b31_0 (c : Cx) (t0 t1 : V) (H : List Blk) : X := newK 1 H fun q H => (aAlloc (q + 0) z0).go H fun x1 H => p (aBuild z1 z2 [(ci 1), (ci 2), (ci 493), (ci 1)]) fun x2 => p (aBsl 8 z3 1 [0] [x2]) fun x3 => p (aBuild z0 z2 [t0, t1, (ci 2), x3]) fun x4 => (aStore 4 x1 x4).go H fun _ H => bnd (loadV true 4 x1 H) fun x5 => some (x5, H)
def s31 (c : Cx) (args : List V) (H : List Blk) : X := argsK 2 args (b31_0 c (getT args 0) (getT args 1) H)
theorem e31 (pc ic n args H) : runK pc ic n c31 args H = s31 ⟨pc, ic, n⟩ args H := by
  unfold s31
  kernel_rfl
def L31 : Leaf := ⟨c31, fun pc ic n => s31 ⟨pc, ic, n⟩, e31⟩
theorem kk31 : chkFn Go.Proofs.Tryz.prog ET 31 c31 = true := by kernel_rfl

def c32_2 : C := (.seq (.seq (.reg 0 none [m 6 (.t 5) 0, m 7 (.t 1) 1, o 8 (.len 1) [.t 7] 2, o 9 (.bin .lss) [.t 6, .t 8] 3]) (.cond (.t 9) .skip (.exit 0))) (.seq (.blk 1 (.reg 0 (some ⟨true, [0, 1, 2, 3, 4, 5, 6, 7, 10, 8, 9], 23⟩) [o 13 (.load true 4) [.t 2] 0, m 14 (.t 1) 1, m 15 (.t 5) 2, ⟨some 16, .ix 7, [.t 14, .t 15], none, 6, 3⟩, ⟨some 17, .load true 7, [.t 16], none, 14, 4⟩, ⟨some 18, .call 62, [.t 13, .c cf, .t 17], none, 31, 5⟩, ⟨some 12, .mov, [.t 18], none, 63, 6⟩, ⟨some 19, .ext 0, [.t 12], none, 127, 7⟩, ⟨some 20, .ext 1, [.t 12], none, 127, 8⟩, ⟨some 21, .ext 2, [.t 12], none, 127, 9⟩, ⟨none, .store 4, [.t 2, .t 19], none, 255, 10⟩])) (.reg 0 none [m 10 (.t 5) 0, o 11 (.bin .add) [.t 10, .c (ci 1)] 1, m 5 (.t 11) 2])))
def c32_s1 : C := (.seq (.reg 0 none [o 22 (.load true 4) [.t 2] 0, ⟨none, .store 4, [.t 4, .t 22], none, 0, 1⟩]) .ret)
def c32_1 : C := (.seq (.reg 2 none [o 2 (.box 0) [.t 0] 0, o 4 (.alloc 1 z0) [] 1]) (.seq (.seq (.reg 0 none [m 5 (.c (ci 0)) 0]) (.blk 0 (.loop 16777270 false c32_2))) c32_s1))
def c32 : Fn := { fid := 32, np := 2, ntmps := 23, body := (.jn 8388611 c32_1), res := [.cell 4 true 4] }
def d32_1 (c : Cx) (t0 t1 : V) (H : List Blk) : X := stepK c.pc c.ic c.n (.jn 8388611 c32_1) (cn 0 23 [(0, t0), (1, t1)]) H (kTop c32.res)
def k32_1 (c : Cx) : KT := thenK (stepK c.pc c.ic c.n c32_s1) (kTop c32.res)
def k32_2 (c : Cx) : KT := blkK 0 (k32_1 c)
def d32_2 (c : Cx) (m n2 : Nat) (t1 t2 t4 t5 : V) (H : List Blk) : X := jnK (loopsK (stepK c.pc c.ic c.n c32_2) 16777270 false n2 m) (cn 0 23 [(1, t1), (2, t2), (4, t4), (5, t5)]) H (k32_2 c) 16777270
def b32_2 (c : Cx) (r2 : F4) (n2 : Nat) (t1 t2 t4 t5 : V) (H : List Blk) : X := (aLen 1 t1).go H fun x1 H => p (aBin .lss t5 x1) fun x2 => condK x2 ((fun (t1 t2 t4 t5 : V) (H : L) (c : Cx) (r2 : F4) => (aLoad true 4 t2).go H fun x3 H => p (aIx 7 t1 t5) fun x4 => (aLoad true 7 x4).go H fun x5 H => p (aCall c.pc 62 [x3, cf, x5]) fun x6 => p (aExt 0 x6) fun x7 => p (aExt 1 x6) fun x8 => p (aExt 2 x6) fun x9 => (aStore 4 t2 x7).go H fun _ H => p (aBin .add t5 (ci 1)) fun x10 => r2 t1 t2 t4 x10 H) t1 t2 t4 t5 H c r2) ((aLoad true 4 t2).go H fun x11 H => (aStore 4 t4 x11).go H fun _ H => bnd (loadV true 4 t4 H) fun x12 => some (x12, H))
def j32_2 (c : Cx) : Nat → Nat → F4 := recN (fun _ _ _ _ _ _ => none) fun ih n2 => b32_2 c (ih n2) n2
theorem o32_2 (c : Cx) : d32_2 c = j32_2 c := by
  unfold j32_2
  refine recN_ok (by kernel_rfl) fun m => funext fun n2 => ?_
  funext t1 t2 t4 t5 H
  refine Eq.trans (jnK_eq 16777270 _ _ H _) ?_
  kernel_rfl
def b32_1 (c : Cx) (j2 : Nat → Nat → F4) (t0 t1 : V) (H : List Blk) : X := newK 2 H fun q H => (aBox (q + 0) t0).go H fun x1 H => (aAlloc (q + 1) z0).go H fun x2 H => j2 c.n H.length t1 x1 x2 (ci 0) H
def j32_1 (c : Cx) : F2 := b32_1 c (j32_2 c)
theorem o32_1 (c : Cx) : d32_1 c = j32_1 c := by
  unfold j32_1; rw [← o32_2]
  funext t0 t1 H
  refine Eq.trans (stepK_jn c.pc c.ic c.n _ H _ 8388611 c32_1) ?_
  kernel_rfl
def b32_0 (c : Cx) (j1 : F2) (t0 t1 : V) (H : List Blk) : X := j1 t0 t1 H
def s32 (c : Cx) (args : List V) (H : List Blk) : X := argsK 2 args (b32_0 c (j32_1 c) (getT args 0) (getT args 1) H)
theorem e32 (pc ic n args H) : runK pc ic n c32 args H = s32 ⟨pc, ic, n⟩ args H := by
  unfold s32; rw [← o32_1]
  kernel_rfl
def L32 : Leaf := ⟨c32, fun pc ic n => s32 ⟨pc, ic, n⟩, e32⟩
theorem kk32 : chkFn Go.Proofs.Tryz.prog ET 32 c32 = true := by kernel_rfl

def c33_2 : C := (.seq (.reg 0 none [o 22 (.bin .lss) [.t 21, .t 20] 0]) (.seq (.cond (.t 22) .skip (.exit 0)) (.seq (.blk 1 (.seq (.reg 0 none [o 23 (.ix 1) [.t 19, .t 21] 0, o 24 (.load false 1) [.t 23] 1, m 8 (.t 24) 2]) (.seq (.seq (.reg 0 (some ⟨true, [], 47⟩) [o 25 (.load true 7) [.t 2] 0, m 26 (.t 4) 1, ⟨some 27, .ix 2, [.t 26, .c (ci 0)], none, 2, 2⟩, ⟨some 28, .load true 2, [.t 27], none, 6, 3⟩, ⟨some 29, .call 77, [.t 25, .t 28], none, 15, 4⟩, ⟨some 30, .un .not, [.t 29], none, 31, 5⟩]) (.cond (.t 30) (.seq (.reg 0 none [m 4 (.c .nilS) 0, m 5 (.c (ci 0)) 1, m 6 (.c (ci 4)) 2]) .ret) .skip)) (.seq (.reg 0 none [m 31 (.t 5) 0, o 32 (.load true 7) [.t 2] 1, m 33 (.t 4) 2, m 34 (.t 8) 3, o 35 (.call 78) [.t 32, .t 33, .t 34] 4, o 36 .min [.t 31, .t 35] 5, m 5 (.t 36) 6]) (.seq (.reg 0 none [o 37 (.load true 7) [.t 2] 0, m 38 (.t 4) 1, m 39 (.t 8) 2, o 40 (.call 79) [.t 37, .t 38, .t 39] 3, m 4 (.t 40) 4]) (.seq (.reg 0 none [m 41 (.t 4) 0, o 42 (.len 1) [.t 41] 1, o 43 (.bin .eql) [.t 42, .c (ci 0)] 2]) (.cond (.t 43) (.seq (.reg 0 none [m 4 (.c .nilS) 0, m 5 (.c (ci 0)) 1, m 6 (.c (ci 2)) 2]) .ret) .skip))))))) (.reg 0 none [o 44 (.bin .add) [.t 21, .c (ci 1)] 0, m 21 (.t 44) 1]))))
def c33_s1 : C := (.seq (.reg 0 none [m 45 (.t 4) 0, m 46 (.t 5) 1, m 4 (.t 45) 2, m 5 (.t 46) 3, m 6 (.c (ci 0)) 4]) .ret)
def c33_1 : C := (.seq (.reg 1 none [o 2 (.box 0) [.t 0] 0, m 4 (.c .nilS) 1, m 5 (.c (ci 0)) 2, m 6 (.c (ci 0)) 3]) (.seq (.seq (.reg 0 none [o 9 (.fld 2) [.t 2] 0, o 10 (.load false 1) [.t 9] 1, o 11 (.len 1) [.t 10] 2, o 12 (.bin .eql) [.t 11, .c (ci 0)] 3]) (.cond (.t 12) (.seq (.reg 0 none [m 4 (.c .nilS) 0, m 5 (.c (ci 0)) 1, m 6 (.c (ci 2)) 2]) .ret) .skip)) (.seq (.reg 0 (some ⟨true, [0, 1, 2, 3, 4, 6, 5, 7], 47⟩) [o 13 (.load true 7) [.t 2] 0, ⟨some 14, .call 76, [.t 13], none, 1, 1⟩, o 15 (.fld 2) [.t 2] 2, ⟨some 16, .load false 1, [.t 15], none, 4, 3⟩, ⟨some 17, .len 1, [.t 16], none, 12, 4⟩, ⟨some 18, .bin .sub, [.t 17, .c (ci 1)], none, 28, 5⟩, ⟨some 4, .mov, [.t 14], none, 3, 6⟩, ⟨some 5, .mov, [.t 18], none, 127, 7⟩]) (.seq (.seq (.reg 0 none [m 19 (.t 1) 0, o 20 (.len 1) [.t 19] 1, m 21 (.c (ci 0)) 2]) (.blk 0 (.loop 281474980380724 false c33_2))) c33_s1))))
def c33 : Fn := { fid := 33, np := 2, ntmps := 47, body := (.jn 140737488355331 c33_1), res := [.tmp 4, .tmp 5, .tmp 6] }
def d33_1 (c : Cx) (t0 t1 : V) (H : List Blk) : X := stepK c.pc c.ic c.n (.jn 140737488355331 c33_1) (cn 0 47 [(0, t0), (1, t1)]) H (kTop c33.res)
def k33_1 (c : Cx) : KT := thenK (stepK c.pc c.ic c.n c33_s1) (kTop c33.res)
def k33_2 (c : Cx) : KT := blkK 0 (k33_1 c)
def d33_2 (c : Cx) (m n2 : Nat) (t2 t4 t5 t19 t20 t21 : V) (H : List Blk) : X := jnK (loopsK (stepK c.pc c.ic c.n c33_2) 281474980380724 false n2 m) (cn 0 47 [(2, t2), (4, t4), (5, t5), (19, t19), (20, t20), (21, t21)]) H (k33_2 c) 281474980380724
def b33_2 (c : Cx) (r2 : F6) (n2 : Nat) (t2 t4 t5 t19 t20 t21 : V) (H : List Blk) : X := p (aBin .lss t21 t20) fun x1 => condK x1 ((fun (t2 t4 t5 t19 t20 t21 : V) (H : L) (c : Cx) (r2 : F6) => p (aIx 1 t19 t21) fun x2 => (aLoad false 1 x2).go H fun x3 H => (aLoad true 7 t2).go H fun x4 H => (fun (t2 t4 t5 t19 t20 t21 x3 x4 : V) (H : L) (c : Cx) (r2 : F6) => p (aIx 2 t4 (ci 0)) fun x5 => (aLoad true 2 x5).go H fun x6 H => p (aCall c.pc 77 [x4, x6]) fun x7 => p (aUn .not x7) fun x8 => condK x8 (some (.tup [.nilS, (ci 0), (ci 4)], H)) ((fun (t2 t4 t5 t19 t20 t21 x3 : V) (H : L) (c : Cx) (r2 : F6) => (aLoad true 7 t2).go H fun x9 H => p (aCall c.pc 78 [x9, t4, x3]) fun x10 => p (aMin t5 [x10]) fun x11 => (aLoad true 7 t2).go H fun x12 H => p (aCall c.pc 79 [x12, t4, x3]) fun x13 => (aLen 1 x13).go H fun x14 H => p (aBin .eql x14 (ci 0)) fun x15 => condK x15 (some (.tup [.nilS, (ci 0), (ci 2)], H)) (p (aBin .add t21 (ci 1)) fun x16 => r2 t2 x13 x11 t19 t20 x16 H)) t2 t4 t5 t19 t20 t21 x3 H c r2)) t2 t4 t5 t19 t20 t21 x3 x4 H c r2) t2 t4 t5 t19 t20 t21 H c r2) (some (.tup [t4, t5, (ci 0)], H))
def j33_2 (c : Cx) : Nat → Nat → F6 := recN (fun _ _ _ _ _ _ _ _ => none) fun ih n2 => b33_2 c (ih n2) n2
theorem o33_2 (c : Cx) : d33_2 c = j33_2 c := by
  unfold j33_2
  refine recN_ok (by kernel_rfl) fun m => funext fun n2 => ?_
  funext t2 t4 t5 t19 t20 t21 H
  refine Eq.trans (jnK_eq 281474980380724 _ _ H _) ?_
  kernel_rfl
def b33_1 (c : Cx) (j2 : Nat → Nat → F6) (t0 t1 : V) (H : List Blk) : X := newK 1 H fun q H => (aBox (q + 0) t0).go H fun x1 H => p (aFld 2 x1) fun x2 => (aLoad false 1 x2).go H fun x3 H => (aLen 1 x3).go H fun x4 H => p (aBin .eql x4 (ci 0)) fun x5 => condK x5 (some (.tup [.nilS, (ci 0), (ci 2)], H)) ((fun (t1 x1 : V) (H : L) (c : Cx) (j2 : Nat → Nat → F6) => (aLoad true 7 x1).go H fun x6 H => p (aCall c.pc 76 [x6]) fun x7 => (fun (t1 x1 x7 : V) (H : L) (c : Cx) (j2 : Nat → Nat → F6) => p (aFld 2 x1) fun x8 => (aLoad false 1 x8).go H fun x9 H => (aLen 1 x9).go H fun x10 H => p (aBin .sub x10 (ci 1)) fun x11 => (aLen 1 t1).go H fun x12 H => j2 c.n H.length x1 x7 x11 t1 x12 (ci 0) H) t1 x1 x7 H c j2) t1 x1 H c j2)
def j33_1 (c : Cx) : F2 := b33_1 c (j33_2 c)
theorem o33_1 (c : Cx) : d33_1 c = j33_1 c := by
  unfold j33_1; rw [← o33_2]
  funext t0 t1 H
  refine Eq.trans (stepK_jn c.pc c.ic c.n _ H _ 140737488355331 c33_1) ?_
  kernel_rfl
def b33_0 (c : Cx) (j1 : F2) (t0 t1 : V) (H : List Blk) : X := j1 t0 t1 H
def s33 (c : Cx) (args : List V) (H : List Blk) : X := argsK 2 args (b33_0 c (j33_1 c) (getT args 0) (getT args 1) H)
theorem e33 (pc ic n args H) : runK pc ic n c33 args H = s33 ⟨pc, ic, n⟩ args H := by
  unfold s33; rw [← o33_1]
  kernel_rfl
def L33 : Leaf := ⟨c33, fun pc ic n => s33 ⟨pc, ic, n⟩, e33⟩
theorem kk33 : chkFn Go.Proofs.Tryz.prog ET 33 c33 = true := by kernel_rfl

def c34_1 : C := (.seq (.reg 2 none [o 2 (.box 0) [.t 0] 0, o 3 (.box 1) [.t 1] 1, m 4 (.c (ci 0)) 2, m 5 (.c cf) 3]) (.seq (.reg 0 none [o 9 (.fld 1) [.t 2] 0, o 10 (.load false 1) [.t 9] 1, o 11 (.load true 2) [.t 3] 2, o 12 (.icall 80) [.t 10, .t 11, .c (.fn 81 [])] 3, m 8 (.t 12) 4, o 13 (.ext 0) [.t 8] 5, o 14 (.ext 1) [.t 8] 6, m 6 (.t 13) 7, m 7 (.t 14) 8]) (.seq (.seq (.reg 0 none [m 15 (.t 7) 0, o 16 (.un .not) [.t 15] 1]) (.cond (.t 16) (.seq (.reg 0 none [m 4 (.c (ci 0)) 0, m 5 (.c cf) 1]) .ret) .skip)) (.seq (.reg 0 none [o 17 (.fld 1) [.t 2] 0, o 18 (.load false 1) [.t 17] 1, m 19 (.t 6) 2, o 20 (.ix 3) [.t 18, .t 19] 3, o 21 (.fld 2) [.t 20] 4, o 22 (.load false 1) [.t 21] 5, m 4 (.t 22) 6, m 5 (.c ct) 7]) .ret))))
def c34 : Fn := { fid := 34, np := 2, ntmps := 23, body := (.jn 8388611 c34_1), res := [.tmp 4, .tmp 5] }
def d34_1 (c : Cx) (t0 t1 : V) (H : List Blk) : X := stepK c.pc c.ic c.n (.jn 8388611 c34_1) (cn 0 23 [(0, t0), (1, t1)]) H (kTop c34.res)
def b34_1 (c : Cx) (t0 t1 : V) (H : List Blk) : X := newK 2 H fun q H => (aBox (q + 0) t0).go H fun x1 H => (aBox (q + 1) t1).go H fun x2 H => p (aFld 1 x1) fun x3 => (aLoad false 1 x3).go H fun x4 H => (fun (x1 x2 x4 : V) (H : L) (c : Cx) => (aLoad true 2 x2).go H fun x5 H => icK c 80 [x4, x5, (.fn 81 [])] H fun x6 H => p (aExt 0 x6) fun x7 => p (aExt 1 x6) fun x8 => p (aUn .not x8) fun x9 => condK x9 (some (.tup [(ci 0), cf], H)) ((fun (x1 x7 : V) (H : L) => p (aFld 1 x1) fun x10 => (aLoad false 1 x10).go H fun x11 H => p (aIx 3 x11 x7) fun x12 => p (aFld 2 x12) fun x13 => (aLoad false 1 x13).go H fun x14 H => some (.tup [x14, ct], H)) x1 x7 H)) x1 x2 x4 H c
def j34_1 (c : Cx) : F2 := b34_1 c
theorem o34_1 (c : Cx) : d34_1 c = j34_1 c := by
  unfold j34_1
  funext t0 t1 H
  refine Eq.trans (stepK_jn c.pc c.ic c.n _ H _ 8388611 c34_1) ?_
  kernel_rfl
def b34_0 (c : Cx) (j1 : F2) (t0 t1 : V) (H : List Blk) : X := j1 t0 t1 H
def s34 (c : Cx) (args : List V) (H : List Blk) : X := argsK 2 args (b34_0 c (j34_1 c) (getT args 0) (getT args 1) H)
theorem e34 (pc ic n args H) : runK pc ic n c34 args H = s34 ⟨pc, ic, n⟩ args H := by
  unfold s34; rw [← o34_1]
  kernel_rfl
def L34 : Leaf := ⟨c34, fun pc ic n => s34 ⟨pc, ic, n⟩, e34⟩
theorem kk34 : chkFn Go.Proofs.Tryz.prog ET 34 c34 = true := by kernel_rfl

def c35 : Fn := { fid := 35, np := 2, ntmps := 8, body := (.seq (.reg 1 none [o 2 (.box 0) [.t 0] 0, m 4 (.c cf) 1]) (.seq (.reg 0 none [o 5 (.load true 2) [.t 2] 0, m 6 (.t 1) 1, o 7 (.call 82) [.t 5, .t 6, .c (ci 1)] 2, m 4 (.t 7) 3]) .ret)), res := [.tmp 4] }
def b35_0 (c : Cx) (t0 t1 : V) (H : List Blk) : X := newK 1 H fun q H => (aBox (q + 0) t0).go H fun x1 H => (aLoad true 2 x1).go H fun x2 H => p (aCall c.pc 82 [x2, t1, (ci 1)]) fun x3 => some (x3, H)
def s35 (c : Cx) (args : List V) (H : List Blk) : X := argsK 2 args (b35_0 c (getT args 0) (getT args 1) H)
theorem e35 (pc ic n args H) : runK pc ic n c35 args H = s35 ⟨pc, ic, n⟩ args H := by
  unfold s35
  kernel_rfl
def L35 : Leaf := ⟨c35, fun pc ic n => s35 ⟨pc, ic, n⟩, e35⟩
theorem kk35 : chkFn Go.Proofs.Tryz.prog ET 35 c35 = true := by kernel_rfl

def c36_1 : C := (.seq (.reg 2 none [o 2 (.box 0) [.t 0] 0, o 4 (.alloc 1 [(ci 0), (ci 0)]) [] 1, m 5 (.c cf) 2]) (.seq (.reg 0 none [o 9 (.fld 2) [.t 2] 0, o 10 (.load false 1) [.t 9] 1, m 11 (.t 1) 2, o 12 (.icall 83) [.t 10, .t 11, .c (.fn 84 [])] 3, m 8 (.t 12) 4, o 13 (.ext 0) [.t 8] 5, o 14 (.ext 1) [.t 8] 6, m 6 (.t 13) 7, m 7 (.t 14) 8]) (.seq (.seq (.reg 0 none [m 15 (.t 7) 0, o 16 (.un .not) [.t 15] 1]) (.cond (.t 16) (.seq (.reg 0 none [o 17 (.build [(ci 0), (ci 0)] []) [] 0, ⟨none, .store 2, [.t 4, .t 17], none, 0, 1⟩, m 5 (.c cf) 2]) .ret) .skip)) (.seq (.reg 0 none [o 18 (.fld 2) [.t 2] 0, o 19 (.load false 1) [.t 18] 1, m 20 (.t 6) 2, o 21 (.ix 3) [.t 19, .t 20] 3, o 22 (.fld 0) [.t 21] 4, o 23 (.load true 2) [.t 22] 5, ⟨none, .store 2, [.t 4, .t 23], none, 0, 6⟩, m 5 (.c ct) 7]) .ret))))
def c36 : Fn := { fid := 36, np := 2, ntmps := 24, body := (.jn 16777219 c36_1), res := [.cell 4 true 2, .tmp 5] }
def d36_1 (c : Cx) (t0 t1 : V) (H : List Blk) : X := stepK c.pc c.ic c.n (.jn 16777219 c36_1) (cn 0 24 [(0, t0), (1, t1)]) H (kTop c36.res)
def b36_1 (c : Cx) (t0 t1 : V) (H : List Blk) : X := newK 2 H fun q H => (aBox (q + 0) t0).go H fun x1 H => (aAlloc (q + 1) [(ci 0), (ci 0)]).go H fun x2 H => p (aFld 2 x1) fun x3 => (fun (t1 x1 x2 x3 : V) (H : L) (c : Cx) => (aLoad false 1 x3).go H fun x4 H => icK c 83 [x4, t1, (.fn 84 [])] H fun x5 H => p (aExt 0 x5) fun x6 => p (aExt 1 x5) fun x7 => p (aUn .not x7) fun x8 => condK x8 (p (aBuild [(ci 0), (ci 0)] [] []) fun x9 => (aStore 2 x2 x9).go H fun _ H => bnd (loadV true 2 x2 H) fun x10 => some (.tup [x10, cf], H)) ((fun (x1 x2 x6 : V) (H : L) => p (aFld 2 x1) fun x11 => (aLoad false 1 x11).go H fun x12 H => (fun (x2 x6 x12 : V) (H : L) => p (aIx 3 x12 x6) fun x13 => p (aFld 0 x13) fun x14 => (aLoad true 2 x14).go H fun x15 H => (aStore 2 x2 x15).go H fun _ H => bnd (loadV true 2 x2 H) fun x16 => some (.tup [x16, ct], H)) x2 x6 x12 H) x1 x2 x6 H)) t1 x1 x2 x3 H c
def j36_1 (c : Cx) : F2 := b36_1 c
theorem o36_1 (c : Cx) : d36_1 c = j36_1 c := by
  unfold j36_1
  funext t0 t1 H
  refine Eq.trans (stepK_jn c.pc c.ic c.n _ H _ 16777219 c36_1) ?_
  kernel_rfl
def b36_0 (c : Cx) (j1 : F2) (t0 t1 : V) (H : List Blk) : X := j1 t0 t1 H
def s36 (c : Cx) (args : List V) (H : List Blk) : X := argsK 2 args (b36_0 c (j36_1 c) (getT args 0) (getT args 1) H)
theorem e36 (pc ic n args H) : runK pc ic n c36 args H = s36 ⟨pc, ic, n⟩ args H := by
  unfold s36; rw [← o36_1]
  kernel_rfl
def L36 : Leaf := ⟨c36, fun pc ic n => s36 ⟨pc, ic, n⟩, e36⟩
theorem kk36 : chkFn Go.Proofs.Tryz.prog ET 36 c36 = true := by kernel_rfl

def c37_2 : C := (.seq (.reg 0 none [o 31 (.load true 8) [.t 5] 0, ⟨none, .store 8, [.t 4, .t 31], none, 0, 1⟩]) .ret)
def l37_0 : List O := [o 20 (.fld 2) [.t 2] 0, ⟨some 21, .load false 1, [.t 20], none, 1, 1⟩, o 22 (.fld 0) [.t 3] 2, ⟨some 23, .load false 1, [.t 22], none, 4, 3⟩, ⟨some 24, .ix 4, [.t 21, .t 23], none, 15, 4⟩, ⟨some 25, .load true 4, [.t 24], none, 31, 5⟩, o 26 (.fld 1) [.t 3] 6, ⟨some 27, .load false 1, [.t 26], none, 64, 7⟩, ⟨some 28, .call 85, [.t 25, .t 27], none, 255, 8⟩, ⟨some 19, .mov, [.t 28], none, 511, 9⟩, ⟨some 29, .ext 0, [.t 19], none, 1023, 10⟩, ⟨some 30, .ext 1, [.t 19], none, 1023, 11⟩, o 5 (.alloc 0 z1) [] 12, ⟨none, .store 8, [.t 5, .t 29], none, 6143, 13⟩, ⟨some 6, .mov, [.t 30], none, 16383, 14⟩]
def c37_1 : C := (.seq (.reg 3 none [o 2 (.box 0) [.t 0] 0, o 3 (.box 1) [.t 1] 1, o 4 (.alloc 2 z1) [] 2]) (.seq (.seq (.reg 0 none [o 7 (.fld 0) [.t 3] 0, o 8 (.load false 1) [.t 7] 1, o 9 (.bin .lss) [.t 8, .c (ci 0)] 2, m 10 (.t 9) 3, ⟨some 11, .fld 0, [.t 3], some (10, false), 0, 4⟩, ⟨some 12, .load false 1, [.t 11], some (10, false), 0, 5⟩, ⟨some 13, .fld 2, [.t 2], some (10, false), 0, 6⟩, ⟨some 14, .load false 1, [.t 13], some (10, false), 0, 7⟩, ⟨some 15, .len 1, [.t 14], some (10, false), 0, 8⟩, ⟨some 16, .bin .geq, [.t 12, .t 15], some (10, false), 0, 9⟩, o 17 .pick [.t 10, .c ct, .t 16] 10]) (.cond (.t 17) (.seq (.reg 0 none [o 18 (.build z1 []) [] 0, ⟨none, .store 8, [.t 4, .t 18], none, 0, 1⟩]) .ret) .skip)) (.seq (.reg 1 (some ⟨false, [0, 1, 2, 3, 4, 5, 6, 7, 8, 9, 10, 12, 13, 11, 14], 32⟩) l37_0) (.jn 8589934640 c37_2))))
def c37 : Fn := { fid := 37, np := 2, ntmps := 32, body := (.jn 4294967299 c37_1), res := [.cell 4 true 8] }
def d37_1 (c : Cx) (t0 t1 : V) (H : List Blk) : X := stepK c.pc c.ic c.n (.jn 4294967299 c37_1) (cn 0 32 [(0, t0), (1, t1)]) H (kTop c37.res)
def d37_2 (c : Cx) (t4 t5 : V) (H : List Blk) : X := stepK c.pc c.ic c.n (.jn 8589934640 c37_2) (cn 0 32 [(4, t4), (5, t5)]) H (kTop c37.res)
def b37_2 (c : Cx) (t4 t5 : V) (H : List Blk) : X := (aLoad true 8 t5).go H fun x1 H => (aStore 8 t4 x1).go H fun _ H => bnd (loadV true 8 t4 H) fun x2 => some (x2, H)
def j37_2 (c : Cx) : F2 := b37_2 c
theorem o37_2 (c : Cx) : d37_2 c = j37_2 c := by
  unfold j37_2
  funext t4 t5 H
  refine Eq.trans (stepK_jn c.pc c.ic c.n _ H _ 8589934640 c37_2) ?_
  kernel_rfl
def b37_1 (c : Cx) (j2 : F2) (t0 t1 : V) (H : List Blk) : X := newK 3 H fun q H => (aBox (q + 0) t0).go H fun x1 H => (aBox (q + 1) t1).go H fun x2 H => (aAlloc (q + 2) z1).go H fun x3 H => p (aFld 0 x2) fun x4 => (aLoad false 1 x4).go H fun x5 H => (fun (t0 t1 x1 x2 x3 x4 x5 : V) (H : L) (c : Cx) (j2 : F2) => p (aBin .lss x5 (ci 0)) fun x6 => guardK x6 false (fun k => (aFld 0 x2).go H k) H fun x7 H => guardK x6 false (fun k => (aLoad false 1 x7).go H k) H fun x8 H => guardK x6 false (fun k => (aFld 2 x1).go H k) H fun x9 H => (fun (t0 t1 x1 x2 x3 x4 x5 x6 x7 x8 x9 : V) (H : L) (c : Cx) (j2 : F2) => guardK x6 false (fun k => (aLoad false 1 x9).go H k) H fun x10 H => guardK x6 false (fun k => (aLen 1 x10).go H k) H fun x11 H => guardK x6 false (fun k => (aBin .geq x8 x11).go H k) H fun x12 H => p (aPick x6 ct x12) fun x13 => condK x13 (p (aBuild z1 [] []) fun x14 => (aStore 8 x3 x14).go H fun _ H => bnd (loadV true 8 x3 H) fun x15 => some (x15, H)) ((fun (t0 t1 x1 x2 x3 x4 x5 x6 x7 x8 x9 x10 x11 x12 x13 : V) (H : L) (c : Cx) (j2 : F2) => newK 1 H fun q H => drawnK c.pc c.ic l37_0 q (cn 0 32 [(0, t0), (1, t1), (2, x1), (3, x2), (4, x3), (7, x4), (8, x5), (9, x6), (10, x6), (11, x7), (12, x8), (13, x9), (14, x10), (15, x11), (16, x12), (17, x13)]) H fun ts15 H => j2 (getT ts15 4) (getT ts15 5) H) t0 t1 x1 x2 x3 x4 x5 x6 x7 x8 x9 x10 x11 x12 x13 H c j2)) t0 t1 x1 x2 x3 x4 x5 x6 x7 x8 x9 H c j2) t0 t1 x1 x2 x3 x4 x5 H c j2
def j37_1 (c : Cx) : F2 := b37_1 c (j37_2 c)
theorem o37_1 (c : Cx) : d37_1 c = j37_1 c := by
  unfold j37_1; rw [← o37_2]
  funext t0 t1 H
  refine Eq.trans (stepK_jn c.pc c.ic c.n _ H _ 4294967299 c37_1) ?_
  kernel_rfl
def b37_0 (c : Cx) (j1 : F2) (t0 t1 : V) (H : List Blk) : X := j1 t0 t1 H
def s37 (c : Cx) (args : List V) (H : List Blk) : X := argsK 2 args (b37_0 c (j37_1 c) (getT args 0) (getT args 1) H)
theorem e37 (pc ic n args H) : runK pc ic n c37 args H = s37 ⟨pc, ic, n⟩ args H := by
  unfold s37; rw [← o37_1]
  kernel_rfl
def L37 : Leaf := ⟨c37, fun pc ic n => s37 ⟨pc, ic, n⟩, e37⟩
theorem kk37 : chkFn Go.Proofs.Tryz.prog ET 37 c37 = true := by kernel_rfl

def c38 : Fn := { fid := 38, np := 2, ntmps := 12, body := (.seq (.reg 2 none [o 2 (.box 0) [.t 0] 0, o 3 (.box 1) [.t 1] 1, m 4 (.c (ci 0)) 2]) (.seq (.reg 1 none [o 5 (.alloc 0 [(ci 0)]) [] 0, ⟨none, .store 1, [.t 5, .c (ci 0)], none, 0, 1⟩]) (.seq (.reg 0 (some ⟨true, [], 12⟩) [o 6 (.load true 7) [.t 2] 0, o 7 (.load true 7) [.t 2] 1, ⟨some 8, .call 76, [.t 7], none, 2, 2⟩, o 9 (.mkF 87) [.t 2, .t 3, .t 5] 3, ⟨some 10, .icall 86, [.t 6, .t 8, .t 9], none, 15, 4⟩]) (.seq (.reg 0 none [o 11 (.load false 1) [.t 5] 0, m 4 (.t 11) 1]) .ret)))), res := [.tmp 4] }
def b38_0 (c : Cx) (t0 t1 : V) (H : List Blk) : X := newK 2 H fun q H => (aBox (q + 0) t0).go H fun x1 H => (aBox (q + 1) t1).go H fun x2 H => newK 1 H fun q H => (aAlloc (q + 0) [(ci 0)]).go H fun x3 H => (aStore 1 x3 (ci 0)).go H fun _ H => (aLoad true 7 x1).go H fun x4 H => (fun (x1 x2 x3 x4 : V) (H : L) (c : Cx) => (aLoad true 7 x1).go H fun x5 H => p (aCall c.pc 76 [x5]) fun x6 => p (aMkF 87 [x1, x2, x3]) fun x7 => icK c 86 [x4, x6, x7] H fun x8 H => (aLoad false 1 x3).go H fun x9 H => some (x9, H)) x1 x2 x3 x4 H c
def s38 (c : Cx) (args : List V) (H : List Blk) : X := argsK 2 args (b38_0 c (getT args 0) (getT args 1) H)
theorem e38 (pc ic n args H) : runK pc ic n c38 args H = s38 ⟨pc, ic, n⟩ args H := by
  unfold s38
  kernel_rfl
def L38 : Leaf := ⟨c38, fun pc ic n => s38 ⟨pc, ic, n⟩, e38⟩
theorem kk38 : chkFn Go.Proofs.Tryz.prog ET 38 c38 = true := by kernel_rfl

def c40_3 : C := (.reg 0 none [o 57 (.load true 7) [.t 3] 0, o 58 (.fld 0) [.t 5] 1, o 59 (.load false 1) [.t 58] 2, o 60 (.load true 4) [.t 14] 3, o 61 (.call 93) [.t 57, .t 59, .t 60] 4, ⟨none, .store 7, [.t 3, .t 61], none, 0, 5⟩])
def c40_s1 : C := (.reg 0 none [o 62 (.bin .add) [.t 35, .c (ci 1)] 0, m 35 (.t 62) 1])
def l40_0 : List O := [o 45 (.fld 2) [.t 3] 0, ⟨some 46, .load false 1, [.t 45], none, 1, 1⟩, o 47 (.fld 0) [.t 5] 2, ⟨some 48, .load false 1, [.t 47], none, 4, 3⟩, ⟨some 49, .ix 4, [.t 46, .t 48], none, 15, 4⟩, ⟨some 50, .load true 4, [.t 49], none, 31, 5⟩, o 51 (.fld 1) [.t 13] 6, ⟨some 52, .load false 1, [.t 51], none, 64, 7⟩, m 53 (.t 10) 8, ⟨some 54, .call 95, [.t 50, .t 52, .t 53], none, 511, 9⟩, ⟨some 44, .mov, [.t 54], none, 1023, 10⟩, ⟨some 55, .ext 0, [.t 44], none, 2047, 11⟩, ⟨some 56, .ext 1, [.t 44], none, 2047, 12⟩, o 14 (.alloc 0 z0) [] 13, ⟨none, .store 4, [.t 14, .t 55], none, 12287, 14⟩, ⟨some 15, .mov, [.t 56], none, 32767, 15⟩]
def c40_2 : C := (.seq (.reg 0 none [o 36 (.bin .lss) [.t 35, .t 34] 0]) (.seq (.cond (.t 36) .skip (.exit 0)) (.seq (.blk 1 (.seq (.reg 1 none [o 37 (.ix 2) [.t 33, .t 35] 0, o 38 (.load true 2) [.t 37] 1, o 13 (.alloc 0 [(ci 0), (ci 0)]) [] 2, ⟨none, .store 2, [.t 13, .t 38], none, 0, 3⟩]) (.seq (.reg 0 none [o 39 (.fld 0) [.t 13] 0, o 40 (.load false 1) [.t 39] 1, o 41 (.fld 0) [.t 5] 2, o 42 (.load false 1) [.t 41] 3, o 43 (.bin .eql) [.t 40, .t 42] 4]) (.cond (.t 43) (.seq (.reg 1 (some ⟨false, [0, 1, 2, 3, 4, 5, 6, 7, 8, 9, 10, 11, 13, 14, 12, 15], 99⟩) l40_0) (.jn 1901475900342344102305184367722 c40_3)) .skip)))) c40_s1)))
def c40_4 : C := (.seq (.reg 0 none [m 75 (.t 17) 0, o 76 (.un .not) [.t 75] 1]) (.cond (.t 76) (.reg 0 none [o 77 (.fld 3) [.t 3] 0, o 78 (.load true 4) [.t 77] 1, o 79 (.load true 2) [.t 5] 2, o 80 (.call 96) [.t 78, .t 79] 3, o 81 (.fld 3) [.t 3] 4, ⟨none, .store 4, [.t 81, .t 80], none, 0, 5⟩]) .skip))
def c40_5 : C := (.seq (.seq (.reg 0 none [o 83 (.load true 7) [.t 3] 0, m 84 (.t 1) 1, o 85 (.call 33) [.t 83, .t 84] 2, m 82 (.t 85) 3, o 86 (.ext 0) [.t 82] 4, o 87 (.ext 1) [.t 82] 5, o 88 (.ext 2) [.t 82] 6, m 18 (.t 86) 7, m 19 (.t 87) 8, m 20 (.t 88) 9]) (.seq (.reg 0 none [m 89 (.t 20) 0, o 90 (.bin .neq) [.t 89, .c (ci 0)] 1]) (.cond (.t 90) (.seq (.reg 0 none [o 91 (.load true 7) [.t 3] 0, ⟨none, .store 7, [.t 6, .t 91], none, 0, 1⟩, m 7 (.c (ci 0)) 2]) .ret) .skip))) (.seq (.reg 0 none [o 92 (.load true 7) [.t 3] 0, m 93 (.t 1) 1, o 94 (.fld 0) [.t 5] 2, o 95 (.load false 1) [.t 94] 3, o 96 (.call 41) [.t 92, .t 93, .t 95] 4, o 97 (.ext 0) [.t 96] 5, o 98 (.ext 1) [.t 96] 6, ⟨none, .store 7, [.t 6, .t 97], none, 0, 7⟩, m 7 (.t 98) 8]) .ret))
def l40_1 : List O := [o 64 (.fld 2) [.t 3] 0, ⟨some 65, .load false 1, [.t 64], none, 1, 1⟩, o 66 (.fld 0) [.t 5] 2, ⟨some 67, .load false 1, [.t 66], none, 4, 3⟩, ⟨some 68, .ix 4, [.t 65, .t 67], none, 15, 4⟩, ⟨some 69, .load true 4, [.t 68], none, 31, 5⟩, o 70 (.fld 1) [.t 5] 6, ⟨some 71, .load false 1, [.t 70], none, 64, 7⟩, ⟨some 72, .call 85, [.t 69, .t 71], none, 255, 8⟩, ⟨some 63, .mov, [.t 72], none, 511, 9⟩, ⟨some 73, .ext 0, [.t 63], none, 1023, 10⟩, ⟨some 74, .ext 1, [.t 63], none, 1023, 11⟩, o 16 (.alloc 0 z1) [] 12, ⟨none, .store 8, [.t 16, .t 73], none, 6143, 13⟩, ⟨some 17, .mov, [.t 74], none, 16383, 14⟩]
def c40_s2 : C := (.seq (.seq (.reg 1 (some ⟨false, [0, 1, 2, 3, 4, 5, 6, 7, 8, 9, 10, 12, 13, 11, 14], 99⟩) l40_1) (.jn 2535301200456458802993406541930 c40_4)) (.jn 3169126500570573503741758013546 c40_5))
def c40_1 : C := (.seq (.reg 3 none [o 3 (.box 0) [.t 0] 0, o 5 (.box 1) [.t 2] 1, o 6 (.alloc 2 z14) [] 2, m 7 (.c (ci 0)) 3]) (.seq (.reg 0 none [o 22 (.load true 7) [.t 3] 0, m 23 (.t 1) 1, o 24 (.call 94) [.t 22, .t 23] 2, m 21 (.t 24) 3, o 25 (.ext 0) [.t 21] 4, o 26 (.ext 1) [.t 21] 5, o 27 (.ext 2) [.t 21] 6, o 28 (.ext 3) [.t 21] 7, m 8 (.t 25) 8, m 9 (.t 26) 9, m 10 (.t 27) 10, m 11 (.t 28) 11]) (.seq (.seq (.reg 0 none [m 29 (.t 11) 0, o 30 (.bin .neq) [.t 29, .c (ci 0)] 1]) (.cond (.t 30) (.seq (.reg 0 none [o 31 (.load true 7) [.t 3] 0, m 32 (.t 11) 1, ⟨none, .store 7, [.t 6, .t 31], none, 0, 2⟩, m 7 (.t 32) 3]) .ret) .skip)) (.seq (.seq (.reg 0 none [m 33 (.t 8) 0, o 34 (.len 1) [.t 33] 1, m 35 (.c (ci 0)) 2]) (.blk 0 (.loop 1267650600228229401556832748650 true c40_2))) c40_s2))))
def c40 : Fn := { fid := 40, np := 3, ntmps := 99, body := (.jn 633825300114114700748351602695 c40_1), res := [.cell 6 true 7, .tmp 7] }
def d40_1 (c : Cx) (t0 t1 t2 : V) (H : List Blk) : X := stepK c.pc c.ic c.n (.jn 633825300114114700748351602695 c40_1) (cn 0 99 [(0, t0), (1, t1), (2, t2)]) H (kTop c40.res)
def k40_1 (c : Cx) : KT := thenK (stepK c.pc c.ic c.n c40_s2) (kTop c40.res)
def k40_2 (c : Cx) : KT := blkK 0 (k40_1 c)
def d40_2 (c : Cx) (m n2 : Nat) (t1 t3 t5 t6 t10 t33 t34 t35 : V) (H : List Blk) : X := jnK (loopsK (stepK c.pc c.ic c.n c40_2) 1267650600228229401556832748650 true n2 m) (cn 0 99 [(1, t1), (3, t3), (5, t5), (6, t6), (10, t10), (33, t33), (34, t34), (35, t35)]) H (k40_2 c) 1267650600228229401556832748650
def k40_3 (c : Cx) (m2 n2 : Nat) : KT := thenK (fun ts H k => jnK (loopsK (stepK c.pc c.ic c.n c40_2) 1267650600228229401556832748650 true n2 m2) (maskT 1267650600228229401556832748650 0 ts) H k 1267650600228229401556832748650) (k40_2 c)
def k40_4 (c : Cx) (m2 n2 : Nat) : KT := thenK (stepK c.pc c.ic c.n c40_s1) (k40_3 c m2 n2)
def k40_5 (c : Cx) (m2 n2 : Nat) : KT := blkK 1 (k40_4 c m2 n2)
def d40_3 (c : Cx) (m2 n2 : Nat) (t1 t3 t5 t6 t10 t14 t33 t34 t35 : V) (H : List Blk) : X := stepK c.pc c.ic c.n (.jn 1901475900342344102305184367722 c40_3) (cn 0 99 [(1, t1), (3, t3), (5, t5), (6, t6), (10, t10), (14, t14), (33, t33), (34, t34), (35, t35)]) H (k40_5 c m2 n2)
def b40_3 (c : Cx) (r2 : F8) (t1 t3 t5 t6 t10 t14 t33 t34 t35 : V) (H : List Blk) : X := (aLoad true 7 t3).go H fun x1 H => p (aFld 0 t5) fun x2 => (fun (t1 t3 t5 t6 t10 t14 t33 t34 t35 x1 x2 : V) (H : L) (c : Cx) (r2 : F8) => (aLoad false 1 x2).go H fun x3 H => (aLoad true 4 t14).go H fun x4 H => p (aCall c.pc 93 [x1, x3, x4]) fun x5 => (aStore 7 t3 x5).go H fun _ H => p (aBin .add t35 (ci 1)) fun x6 => r2 t1 t3 t5 t6 t10 t33 t34 x6 H) t1 t3 t5 t6 t10 t14 t33 t34 t35 x1 x2 H c r2
def j40_3 (c : Cx) (r2 : F8) : F9 := b40_3 c r2
theorem o40_3 (c : Cx) (m2 n2 : Nat) : d40_3 c m2 n2 = j40_3 c (d40_2 c m2 n2) := by
  unfold j40_3
  funext t1 t3 t5 t6 t10 t14 t33 t34 t35 H
  refine Eq.trans (stepK_jn c.pc c.ic c.n _ H _ 1901475900342344102305184367722 c40_3) ?_
  kernel_rfl
def k40_6 (c : Cx) : KT := thenK (stepK c.pc c.ic c.n (.jn 3169126500570573503741758013546 c40_5)) (kTop c40.res)
def d40_4 (c : Cx) (t1 t3 t5 t6 t17 : V) (H : List Blk) : X := stepK c.pc c.ic c.n (.jn 2535301200456458802993406541930 c40_4) (cn 0 99 [(1, t1), (3, t3), (5, t5), (6, t6), (17, t17)]) H (k40_6 c)
def d40_5 (c : Cx) (t1 t3 t5 t6 : V) (H : List Blk) : X := stepK c.pc c.ic c.n (.jn 3169126500570573503741758013546 c40_5) (cn 0 99 [(1, t1), (3, t3), (5, t5), (6, t6)]) H (kTop c40.res)
def b40_5 (c : Cx) (t1 t3 t5 t6 : V) (H : List Blk) : X := (aLoad true 7 t3).go H fun x1 H => (fun (t1 t3 t5 t6 x1 : V) (H : L) (c : Cx) => p (aCall c.pc 33 [x1, t1]) fun x2 => p (aExt 0 x2) fun x3 => p (aExt 1 x2) fun x4 => p (aExt 2 x2) fun x5 => p (aBin .neq x5 (ci 0)) fun x6 => condK x6 ((aLoad true 7 t3).go H fun x7 H => (aStore 7 t6 x7).go H fun _ H => bnd (loadV true 7 t6 H) fun x8 => some (.tup [x8, (ci 0)], H)) ((fun (t1 t3 t5 t6 : V) (H : L) (c : Cx) => (aLoad true 7 t3).go H fun x9 H => p (aFld 0 t5) fun x10 => (aLoad false 1 x10).go H fun x11 H => (fun (t1 t6 x9 x11 : V) (H : L) (c : Cx) => p (aCall c.pc 41 [x9, t1, x11]) fun x12 => p (aExt 0 x12) fun x13 => p (aExt 1 x12) fun x14 => (aStore 7 t6 x13).go H fun _ H => bnd (loadV true 7 t6 H) fun x15 => some (.tup [x15, x14], H)) t1 t6 x9 x11 H c) t1 t3 t5 t6 H c)) t1 t3 t5 t6 x1 H c
def j40_5 (c : Cx) : F4 := b40_5 c
theorem o40_5 (c : Cx) : d40_5 c = j40_5 c := by
  unfold j40_5
  funext t1 t3 t5 t6 H
  refine Eq.trans (stepK_jn c.pc c.ic c.n _ H _ 3169126500570573503741758013546 c40_5) ?_
  kernel_rfl
def b40_4 (c : Cx) (j5 : F4) (t1 t3 t5 t6 t17 : V) (H : List Blk) : X := p (aUn .not t17) fun x1 => condK x1 ((fun (t1 t3 t5 t6 : V) (H : L) (c : Cx) (j5 : F4) => p (aFld 3 t3) fun x2 => (aLoad true 4 x2).go H fun x3 H => (aLoad true 2 t5).go H fun x4 H => p (aCall c.pc 96 [x3, x4]) fun x5 => p (aFld 3 t3) fun x6 => (aStore 4 x6 x5).go H fun _ H => j5 t1 t3 t5 t6 H) t1 t3 t5 t6 H c j5) (j5 t1 t3 t5 t6 H)
def j40_4 (c : Cx) : F5 := b40_4 c (j40_5 c)
theorem o40_4 (c : Cx) : d40_4 c = j40_4 c := by
  unfold j40_4; rw [← o40_5]
  funext t1 t3 t5 t6 t17 H
  refine Eq.trans (stepK_jn c.pc c.ic c.n _ H _ 2535301200456458802993406541930 c40_4) ?_
  kernel_rfl
def b40_2 (c : Cx) (r2 : F8) (j3 : F9) (j4 : F5) (n2 : Nat) (t1 t3 t5 t6 t10 t33 t34 t35 : V) (H : List Blk) : X := bnd (trimF true n2 [t1, t3, t5, t6, t10, t33, t34, t35] H) fun H => p (aBin .lss t35 t34) fun x1 => condK x1 ((fun (t1 t3 t5 t6 t10 t33 t34 t35 x1 : V) (H : L) (c : Cx) (j3 : F9) (r2 : F8) => newK 1 H fun q H => (fun (t1 t3 t5 t6 t10 t33 t34 t35 x1 : V) (q : Nat) (H : L) (c : Cx) (j3 : F9) (r2 : F8) => p (aIx 2 t33 t35) fun x2 => (aLoad true 2 x2).go H fun x3 H => (aAlloc (q + 0) [(ci 0), (ci 0)]).go H fun x4 H => (aStore 2 x4 x3).go H fun _ H => p (aFld 0 x4) fun x5 => (fun (t1 t3 t5 t6 t10 t33 t34 t35 x1 x2 x3 x4 x5 : V) (H : L) (c : Cx) (j3 : F9) (r2 : F8) => (aLoad false 1 x5).go H fun x6 H => p (aFld 0 t5) fun x7 => (aLoad false 1 x7).go H fun x8 H => p (aBin .eql x6 x8) fun x9 => condK x9 ((fun (t1 t3 t5 t6 t10 t33 t34 t35 x1 x2 x3 x4 x5 x6 x7 x8 x9 : V) (H : L) (c : Cx) (j3 : F9) => newK 1 H fun q H => drawnK c.pc c.ic l40_0 q (cn 0 99 [(1, t1), (3, t3), (5, t5), (6, t6), (10, t10), (13, x4), (33, t33), (34, t34), (35, t35), (36, x1), (37, x2), (38, x3), (39, x5), (40, x6), (41, x7), (42, x8), (43, x9)]) H fun ts9 H => j3 (getT ts9 1) (getT ts9 3) (getT ts9 5) (getT ts9 6) (getT ts9 10) (getT ts9 14) (getT ts9 33) (getT ts9 34) (getT ts9 35) H) t1 t3 t5 t6 t10 t33 t34 t35 x1 x2 x3 x4 x5 x6 x7 x8 x9 H c j3) (p (aBin .add t35 (ci 1)) fun x11 => r2 t1 t3 t5 t6 t10 t33 t34 x11 H)) t1 t3 t5 t6 t10 t33 t34 t35 x1 x2 x3 x4 x5 H c j3 r2) t1 t3 t5 t6 t10 t33 t34 t35 x1 q H c j3 r2) t1 t3 t5 t6 t10 t33 t34 t35 x1 H c j3 r2) ((fun (t1 t3 t5 t6 t10 t33 t34 t35 x1 : V) (H : L) (c : Cx) (j4 : F5) => newK 1 H fun q H => drawnK c.pc c.ic l40_1 q (cn 0 99 [(1, t1), (3, t3), (5, t5), (6, t6), (10, t10), (33, t33), (34, t34), (35, t35), (36, x1)]) H fun ts11 H => j4 (getT ts11 1) (getT ts11 3) (getT ts11 5) (getT ts11 6) (getT ts11 17) H) t1 t3 t5 t6 t10 t33 t34 t35 x1 H c j4)
def j40_2 (c : Cx) : Nat → Nat → F8 := recN (fun _ _ _ _ _ _ _ _ _ _ => none) fun ih n2 => b40_2 c (ih n2) (j40_3 c (ih n2)) (j40_4 c) n2
theorem o40_2 (c : Cx) : d40_2 c = j40_2 c := by
  unfold j40_2
  refine recN_ok (by kernel_rfl) fun m => funext fun n2 => ?_
  simp only [← o40_3, ← o40_4]
  funext t1 t3 t5 t6 t10 t33 t34 t35 H
  refine Eq.trans (jnK_eq 1267650600228229401556832748650 _ _ H _) ?_
  kernel_rfl
def b40_1 (c : Cx) (j2 : Nat → Nat → F8) (t0 t1 t2 : V) (H : List Blk) : X := newK 3 H fun q H => (aBox (q + 0) t0).go H fun x1 H => (aBox (q + 1) t2).go H fun x2 H => (aAlloc (q + 2) z14).go H fun x3 H => (aLoad true 7 x1).go H fun x4 H => p (aCall c.pc 94 [x4, t1]) fun x5 => (fun (t1 x1 x2 x3 x5 : V) (H : L) (c : Cx) (j2 : Nat → Nat → F8) => p (aExt 0 x5) fun x6 => p (aExt 1 x5) fun x7 => p (aExt 2 x5) fun x8 => p (aExt 3 x5) fun x9 => p (aBin .neq x9 (ci 0)) fun x10 => condK x10 ((aLoad true 7 x1).go H fun x11 H => (aStore 7 x3 x11).go H fun _ H => bnd (loadV true 7 x3 H) fun x12 => some (.tup [x12, x9], H)) ((aLen 1 x6).go H fun x13 H => j2 c.n H.length t1 x1 x2 x3 x8 x6 x13 (ci 0) H)) t1 x1 x2 x3 x5 H c j2
def j40_1 (c : Cx) : F3 := b40_1 c (j40_2 c)
theorem o40_1 (c : Cx) : d40_1 c = j40_1 c := by
  unfold j40_1; rw [← o40_2]
  funext t0 t1 t2 H
  refine Eq.trans (stepK_jn c.pc c.ic c.n _ H _ 633825300114114700748351602695 c40_1) ?_
  kernel_rfl
def b40_0 (c : Cx) (j1 : F3) (t0 t1 t2 : V) (H : List Blk) : X := j1 t0 t1 t2 H
def s40 (c : Cx) (args : List V) (H : List Blk) : X := argsK 3 args (b40_0 c (j40_1 c) (getT args 0) (getT args 1) (getT args 2) H)
theorem e40 (pc ic n args H) : runK pc ic n c40 args H = s40 ⟨pc, ic, n⟩ args H := by
  unfold s40; rw [← o40_1]
  kernel_rfl
def L40 : Leaf := ⟨c40, fun pc ic n => s40 ⟨pc, ic, n⟩, e40⟩
theorem kk40 : chkFn Go.Proofs.Tryz.prog ET 40 c40 = true := by kernel_rfl

def c41_1 : C := (.seq (.seq (.reg 0 (some ⟨true, [], 59⟩) [m 25 (.t 11) 0, ⟨some 26, .bin .neq, [.t 25, .c (ci 0)], none, 1, 1⟩, ⟨some 27, .mov, [.t 26], none, 3, 2⟩, ⟨some 28, .fld 2, [.t 9], some (27, false), 7, 3⟩, ⟨some 29, .load false 1, [.t 28], some (27, false), 15, 4⟩, ⟨some 30, .mov, [.t 2], some (27, false), 7, 5⟩, ⟨some 31, .ix 4, [.t 29, .t 30], some (27, false), 63, 6⟩, ⟨some 32, .load true 4, [.t 31], some (27, false), 127, 7⟩, ⟨some 33, .mov, [.t 10], some (27, false), 7, 8⟩, ⟨some 34, .mov, [.t 1], some (27, false), 7, 9⟩, ⟨some 35, .mov, [.t 8], some (27, false), 7, 10⟩, ⟨some 36, .ix 1, [.t 34, .t 35], some (27, false), 1543, 11⟩, ⟨some 37, .load false 1, [.t 36], some (27, false), 3591, 12⟩, ⟨some 38, .call 98, [.t 32, .t 33, .t 37], some (27, false), 8191, 13⟩, ⟨some 39, .pick, [.t 27, .c ct, .t 38], none, 16383, 14⟩]) (.cond (.t 39) (.seq (.reg 0 none [o 40 (.load true 7) [.t 9] 0, m 41 (.t 11) 1, ⟨none, .store 7, [.t 6, .t 40], none, 0, 2⟩, m 7 (.t 41) 3]) .ret) .skip)) (.seq (.seq (.reg 0 (some ⟨true, [0, 1, 2, 3, 4, 5, 6, 7, 8, 9, 10, 12, 11, 13], 59⟩) [o 43 (.load true 7) [.t 9] 0, m 44 (.t 2) 1, m 45 (.t 10) 2, m 46 (.t 1) 3, m 47 (.t 8) 4, ⟨some 48, .ix 1, [.t 46, .t 47], none, 24, 5⟩, ⟨some 49, .load false 1, [.t 48], none, 56, 6⟩, ⟨some 50, .call 100, [.t 49], none, 120, 7⟩, ⟨some 51, .call 99, [.t 43, .t 44, .t 45, .t 50], none, 255, 8⟩, ⟨some 42, .mov, [.t 51], none, 511, 9⟩, ⟨some 52, .ext 0, [.t 42], none, 1023, 10⟩, ⟨some 53, .ext 1, [.t 42], none, 1023, 11⟩, ⟨none, .store 7, [.t 9, .t 52], none, 2047, 12⟩, ⟨some 11, .mov, [.t 53], none, 8191, 13⟩]) (.seq (.reg 0 none [m 54 (.t 11) 0, o 55 (.bin .neq) [.t 54, .c (ci 0)] 1]) (.cond (.t 55) (.seq (.reg 0 none [o 56 (.load true 7) [.t 3] 0, m 57 (.t 11) 1, ⟨none, .store 7, [.t 6, .t 56], none, 0, 2⟩, m 7 (.t 57) 3]) .ret) .skip))) (.seq (.reg 0 none [o 58 (.load true 7) [.t 9] 0, ⟨none, .store 7, [.t 6, .t 58], none, 0, 1⟩, m 7 (.c (ci 0)) 2]) .ret)))
def l41_0 : List O := [o 16 (.load true 7) [.t 3] 0, m 17 (.t 1) 1, m 18 (.t 8) 2, ⟨some 19, .sub 1 false true false, [.t 17, .t 18], none, 6, 3⟩, m 20 (.t 2) 4, ⟨some 21, .call 97, [.t 16, .t 19, .t 20], none, 31, 5⟩, ⟨some 15, .mov, [.t 21], none, 63, 6⟩, ⟨some 22, .ext 0, [.t 15], none, 127, 7⟩, ⟨some 23, .ext 1, [.t 15], none, 127, 8⟩, ⟨some 24, .ext 2, [.t 15], none, 127, 9⟩, o 9 (.alloc 0 z14) [] 10, ⟨none, .store 7, [.t 9, .t 22], none, 1279, 11⟩, ⟨some 10, .mov, [.t 23], none, 3583, 12⟩, ⟨some 11, .mov, [.t 24], none, 8191, 13⟩]
def c41 : Fn := { fid := 41, np := 3, ntmps := 59, body := (.seq (.reg 2 none [o 3 (.box 0) [.t 0] 0, o 6 (.alloc 1 z14) [] 1, m 7 (.c (ci 0)) 2]) (.seq (.reg 0 none [m 12 (.t 1) 0, o 13 (.len 1) [.t 12] 1, o 14 (.bin .sub) [.t 13, .c (ci 1)] 2, m 8 (.t 14) 3]) (.seq (.reg 1 (some ⟨false, [0, 1, 2, 3, 4, 5, 6, 7, 10, 11, 8, 12, 9, 13], 59⟩) l41_0) (.jn 576460752303427406 c41_1)))), res := [.cell 6 true 7, .tmp 7] }
def d41_1 (c : Cx) (t1 t2 t3 t6 t8 t9 t10 t11 : V) (H : List Blk) : X := stepK c.pc c.ic c.n (.jn 576460752303427406 c41_1) (cn 0 59 [(1, t1), (2, t2), (3, t3), (6, t6), (8, t8), (9, t9), (10, t10), (11, t11)]) H (kTop c41.res)
def b41_1 (c : Cx) (t1 t2 t3 t6 t8 t9 t10 t11 : V) (H : List Blk) : X := p (aBin .neq t11 (ci 0)) fun x1 => (fun (t1 t2 t3 t6 t8 t9 t10 t11 x1 : V) (H : L) (c : Cx) => guardK x1 false (fun k => (aFld 2 t9).go H k) H fun x2 H => guardK x1 false (fun k => (aLoad false 1 x2).go H k) H fun x3 H => guardK x1 false (fun k => (aMov t2).go H k) H fun x4 H => guardK x1 false (fun k => (aIx 4 x3 x4).go H k) H fun x5 H => (fun (t1 t2 t3 t6 t8 t9 t10 t11 x1 x5 : V) (H : L) (c : Cx) => guardK x1 false (fun k => (aLoad true 4 x5).go H k) H fun x6 H => guardK x1 false (fun k => (aMov t10).go H k) H fun x7 H => guardK x1 false (fun k => (aMov t1).go H k) H fun x8 H => guardK x1 false (fun k => (aMov t8).go H k) H fun x9 H => (fun (t1 t2 t3 t6 t8 t9 t10 t11 x1 x6 x7 x8 x9 : V) (H : L) (c : Cx) => guardK x1 false (fun k => (aIx 1 x8 x9).go H k) H fun x10 H => guardK x1 false (fun k => (aLoad false 1 x10).go H k) H fun x11 H => guardK x1 false (fun k => (aCall c.pc 98 [x6, x7, x11]).go H k) H fun x12 H => p (aPick x1 ct x12) fun x13 => condK x13 ((aLoad true 7 t9).go H fun x14 H => (aStore 7 t6 x14).go H fun _ H => bnd (loadV true 7 t6 H) fun x15 => some (.tup [x15, t11], H)) ((fun (t1 t2 t3 t6 t8 t9 t10 : V) (H : L) (c : Cx) => (aLoad true 7 t9).go H fun x16 H => p (aIx 1 t1 t8) fun x17 => (aLoad false 1 x17).go H fun x18 H => p (aCall c.pc 100 [x18]) fun x19 => (fun (t2 t3 t6 t9 t10 x16 x19 : V) (H : L) (c : Cx) => p (aCall c.pc 99 [x16, t2, t10, x19]) fun x20 => p (aExt 0 x20) fun x21 => p (aExt 1 x20) fun x22 => (aStore 7 t9 x21).go H fun _ H => p (aBin .neq x22 (ci 0)) fun x23 => condK x23 ((aLoad true 7 t3).go H fun x24 H => (aStore 7 t6 x24).go H fun _ H => bnd (loadV true 7 t6 H) fun x25 => some (.tup [x25, x22], H)) ((aLoad true 7 t9).go H fun x26 H => (aStore 7 t6 x26).go H fun _ H => bnd (loadV true 7 t6 H) fun x27 => some (.tup [x27, (ci 0)], H))) t2 t3 t6 t9 t10 x16 x19 H c) t1 t2 t3 t6 t8 t9 t10 H c)) t1 t2 t3 t6 t8 t9 t10 t11 x1 x6 x7 x8 x9 H c) t1 t2 t3 t6 t8 t9 t10 t11 x1 x5 H c) t1 t2 t3 t6 t8 t9 t10 t11 x1 H c
def j41_1 (c : Cx) : F8 := b41_1 c
theorem o41_1 (c : Cx) : d41_1 c = j41_1 c := by
  unfold j41_1
  funext t1 t2 t3 t6 t8 t9 t10 t11 H
  refine Eq.trans (stepK_jn c.pc c.ic c.n _ H _ 576460752303427406 c41_1) ?_
  kernel_rfl
def b41_0 (c : Cx) (j1 : F8) (t0 t1 t2 : V) (H : List Blk) : X := newK 2 H fun q H => (aBox (q + 0) t0).go H fun x1 H => (aAlloc (q + 1) z14).go H fun x2 H => (aLen 1 t1).go H fun x3 H => p (aBin .sub x3 (ci 1)) fun x4 => newK 1 H fun q H => drawnK c.pc c.ic l41_0 q (cn 0 59 [(0, t0), (1, t1), (2, t2), (3, x1), (6, x2), (7, (ci 0)), (8, x4), (12, t1), (13, x3), (14, x4)]) H fun ts4 H => j1 (getT ts4 1) (getT ts4 2) (getT ts4 3) (getT ts4 6) (getT ts4 8) (getT ts4 9) (getT ts4 10) (getT ts4 11) H
def s41 (c : Cx) (args : List V) (H : List Blk) : X := argsK 3 args (b41_0 c (j41_1 c) (getT args 0) (getT args 1) (getT args 2) H)
theorem e41 (pc ic n args H) : runK pc ic n c41 args H = s41 ⟨pc, ic, n⟩ args H := by
  unfold s41; rw [← o41_1]
  kernel_rfl
def L41 : Leaf := ⟨c41, fun pc ic n => s41 ⟨pc, ic, n⟩, e41⟩
theorem kk41 : chkFn Go.Proofs.Tryz.prog ET 41 c41 = true := by kernel_rfl

def c42_2 : C := (.seq (.seq (.reg 0 none [m 12 (.t 5) 0, o 13 (.bin .geq) [.t 12, .c (ci 0)] 1]) (.cond (.t 13) .skip (.exit 0))) (.seq (.blk 1 (.seq (.reg 0 none [o 16 (.load true 2) [.t 2] 0, m 17 (.t 5) 1, o 18 (.call 35) [.t 16, .t 17] 2]) (.cond (.t 18) (.seq (.reg 0 none [m 19 (.t 5) 0, m 4 (.t 19) 1]) .ret) .skip))) (.reg 0 none [m 14 (.t 5) 0, o 15 (.bin .sub) [.t 14, .c (ci 1)] 1, m 5 (.t 15) 2])))
def c42_s1 : C := (.seq (.reg 0 none [m 4 (.c (ci (-1))) 0]) .ret)
def c42_1 : C := (.seq (.reg 1 none [o 2 (.box 0) [.t 0] 0, m 4 (.c (ci 0)) 1]) (.seq (.seq (.reg 0 none [m 6 (.t 1) 0, o 7 (.fld 0) [.t 2] 1, o 8 (.load false 1) [.t 7] 2, o 9 (.len 1) [.t 8] 3, o 10 (.bin .sub) [.t 9, .c (ci 1)] 4, o 11 .min [.t 6, .t 10] 5, m 5 (.t 11) 6]) (.blk 0 (.loop 2097188 false c42_2))) c42_s1))
def c42 : Fn := { fid := 42, np := 2, ntmps := 20, body := (.jn 1048579 c42_1), res := [.tmp 4] }
def d42_1 (c : Cx) (t0 t1 : V) (H : List Blk) : X := stepK c.pc c.ic c.n (.jn 1048579 c42_1) (cn 0 20 [(0, t0), (1, t1)]) H (kTop c42.res)
def k42_1 (c : Cx) : KT := thenK (stepK c.pc c.ic c.n c42_s1) (kTop c42.res)
def k42_2 (c : Cx) : KT := blkK 0 (k42_1 c)
def d42_2 (c : Cx) (m n2 : Nat) (t2 t5 : V) (H : List Blk) : X := jnK (loopsK (stepK c.pc c.ic c.n c42_2) 2097188 false n2 m) (cn 0 20 [(2, t2), (5, t5)]) H (k42_2 c) 2097188
def b42_2 (c : Cx) (r2 : F2) (n2 : Nat) (t2 t5 : V) (H : List Blk) : X := p (aBin .geq t5 (ci 0)) fun x1 => condK x1 ((aLoad true 2 t2).go H fun x2 H => p (aCall c.pc 35 [x2, t5]) fun x3 => condK x3 (some (t5, H)) (p (aBin .sub t5 (ci 1)) fun x4 => r2 t2 x4 H)) (some ((ci (-1)), H))
def j42_2 (c : Cx) : Nat → Nat → F2 := recN (fun _ _ _ _ => none) fun ih n2 => b42_2 c (ih n2) n2
theorem o42_2 (c : Cx) : d42_2 c = j42_2 c := by
  unfold j42_2
  refine recN_ok (by kernel_rfl) fun m => funext fun n2 => ?_
  funext t2 t5 H
  refine Eq.trans (jnK_eq 2097188 _ _ H _) ?_
  kernel_rfl
def b42_1 (c : Cx) (j2 : Nat → Nat → F2) (t0 t1 : V) (H : List Blk) : X := newK 1 H fun q H => (aBox (q + 0) t0).go H fun x1 H => p (aFld 0 x1) fun x2 => (aLoad false 1 x2).go H fun x3 H => (aLen 1 x3).go H fun x4 H => p (aBin .sub x4 (ci 1)) fun x5 => p (aMin t1 [x5]) fun x6 => j2 c.n H.length x1 x6 H
def j42_1 (c : Cx) : F2 := b42_1 c (j42_2 c)
theorem o42_1 (c : Cx) : d42_1 c = j42_1 c := by
  unfold j42_1; rw [← o42_2]
  funext t0 t1 H
  refine Eq.trans (stepK_jn c.pc c.ic c.n _ H _ 1048579 c42_1) ?_
  kernel_rfl
def b42_0 (c : Cx) (j1 : F2) (t0 t1 : V) (H : List Blk) : X := j1 t0 t1 H
def s42 (c : Cx) (args : List V) (H : List Blk) : X := argsK 2 args (b42_0 c (j42_1 c) (getT args 0) (getT args 1) H)
theorem e42 (pc ic n args H) : runK pc ic n c42 args H = s42 ⟨pc, ic, n⟩ args H := by
  unfold s42; rw [← o42_1]
  kernel_rfl
def L42 : Leaf := ⟨c42, fun pc ic n => s42 ⟨pc, ic, n⟩, e42⟩
theorem kk42 : chkFn Go.Proofs.Tryz.prog ET 42 c42 = true := by kernel_rfl

def c43_2 : C := (.seq (.reg 0 none [m 48 (.t 11) 0, o 49 (.bin .eql) [.t 48, .c (ci 0)] 1]) (.cond (.t 49) (.reg 0 none [o 50 (.load true 7) [.t 2] 0, o 51 (.fld 0) [.t 5] 1, o 52 (.load false 1) [.t 51] 2, o 53 (.load true 4) [.t 10] 3, o 54 (.call 93) [.t 50, .t 52, .t 53] 4, ⟨none, .store 7, [.t 2, .t 54], none, 0, 5⟩]) .skip))
def c43_3 : C := (.seq (.reg 0 none [o 55 (.fld 3) [.t 2] 0, o 56 (.load true 4) [.t 55] 1, m 57 (.t 1) 2, o 58 (.call 53) [.t 56, .t 57] 3, o 59 (.fld 3) [.t 2] 4, ⟨none, .store 4, [.t 59, .t 58], none, 0, 5⟩]) (.seq (.reg 0 none [o 60 (.load true 7) [.t 2] 0, ⟨none, .store 7, [.t 4, .t 60], none, 0, 1⟩]) .ret))
def l43_0 : List O := [o 40 (.load true 4) [.t 7] 0, o 41 (.fld 0) [.t 8] 1, ⟨some 42, .load false 1, [.t 41], none, 2, 2⟩, m 43 (.t 1) 3, ⟨some 44, .call 91, [.t 43], none, 8, 4⟩, ⟨some 45, .call 95, [.t 40, .t 42, .t 44], none, 31, 5⟩, ⟨some 39, .mov, [.t 45], none, 63, 6⟩, ⟨some 46, .ext 0, [.t 39], none, 127, 7⟩, ⟨some 47, .ext 1, [.t 39], none, 127, 8⟩, o 10 (.alloc 0 z0) [] 9, ⟨none, .store 4, [.t 10, .t 46], none, 767, 10⟩, ⟨some 11, .mov, [.t 47], none, 2047, 11⟩]
def c43_1 : C := (.seq (.reg 2 none [o 2 (.box 0) [.t 0] 0, o 4 (.alloc 1 z14) [] 1]) (.seq (.reg 1 none [o 13 (.fld 3) [.t 2] 0, o 14 (.load true 4) [.t 13] 1, m 15 (.t 1) 2, o 16 (.call 36) [.t 14, .t 15] 3, m 12 (.t 16) 4, o 17 (.ext 0) [.t 12] 5, o 18 (.ext 1) [.t 12] 6, o 5 (.alloc 0 [(ci 0), (ci 0)]) [] 7, ⟨none, .store 2, [.t 5, .t 17], none, 0, 8⟩, m 6 (.t 18) 9]) (.seq (.seq (.reg 0 none [m 19 (.t 6) 0, m 20 (.t 19) 1, ⟨some 21, .fld 0, [.t 2], some (20, true), 0, 2⟩, ⟨some 22, .load true 2, [.t 21], some (20, true), 0, 3⟩, ⟨some 23, .fld 0, [.t 5], some (20, true), 0, 4⟩, ⟨some 24, .load false 1, [.t 23], some (20, true), 0, 5⟩, ⟨some 25, .call 35, [.t 22, .t 24], some (20, true), 0, 6⟩, o 26 .pick [.t 20, .t 25, .c cf] 7]) (.cond (.t 26) (.seq (.reg 1 none [o 27 (.fld 2) [.t 2] 0, o 28 (.load false 1) [.t 27] 1, o 29 (.fld 0) [.t 5] 2, o 30 (.load false 1) [.t 29] 3, o 31 (.ix 4) [.t 28, .t 30] 4, o 32 (.load true 4) [.t 31] 5, o 7 (.alloc 0 z0) [] 6, ⟨none, .store 4, [.t 7, .t 32], none, 0, 7⟩]) (.seq (.reg 1 none [o 34 (.load true 4) [.t 7] 0, o 35 (.call 88) [.t 34] 1, m 33 (.t 35) 2, o 36 (.ext 0) [.t 33] 3, o 37 (.ext 1) [.t 33] 4, o 8 (.alloc 0 z1) [] 5, ⟨none, .store 8, [.t 8, .t 36], none, 0, 6⟩, m 9 (.t 37) 7]) (.seq (.reg 0 none [m 38 (.t 9) 0]) (.cond (.t 38) (.seq (.reg 1 (some ⟨false, [0, 1, 2, 3, 4, 5, 6, 7, 9, 10, 8, 11], 61⟩) l43_0) (.jn 4611686018427391030 c43_2)) .skip)))) .skip)) (.jn 6917529027641081878 c43_3))))
def c43 : Fn := { fid := 43, np := 2, ntmps := 61, body := (.jn 2305843009213693955 c43_1), res := [.cell 4 true 7] }
def d43_1 (c : Cx) (t0 t1 : V) (H : List Blk) : X := stepK c.pc c.ic c.n (.jn 2305843009213693955 c43_1) (cn 0 61 [(0, t0), (1, t1)]) H (kTop c43.res)
def k43_1 (c : Cx) : KT := thenK (stepK c.pc c.ic c.n (.jn 6917529027641081878 c43_3)) (kTop c43.res)
def d43_2 (c : Cx) (t1 t2 t4 t5 t10 t11 : V) (H : List Blk) : X := stepK c.pc c.ic c.n (.jn 4611686018427391030 c43_2) (cn 0 61 [(1, t1), (2, t2), (4, t4), (5, t5), (10, t10), (11, t11)]) H (k43_1 c)
def d43_3 (c : Cx) (t1 t2 t4 : V) (H : List Blk) : X := stepK c.pc c.ic c.n (.jn 6917529027641081878 c43_3) (cn 0 61 [(1, t1), (2, t2), (4, t4)]) H (kTop c43.res)
def b43_3 (c : Cx) (t1 t2 t4 : V) (H : List Blk) : X := p (aFld 3 t2) fun x1 => (fun (t1 t2 t4 x1 : V) (H : L) (c : Cx) => (aLoad true 4 x1).go H fun x2 H => p (aCall c.pc 53 [x2, t1]) fun x3 => p (aFld 3 t2) fun x4 => (aStore 4 x4 x3).go H fun _ H => (aLoad true 7 t2).go H fun x5 H => (aStore 7 t4 x5).go H fun _ H => bnd (loadV true 7 t4 H) fun x6 => some (x6, H)) t1 t2 t4 x1 H c
def j43_3 (c : Cx) : F3 := b43_3 c
theorem o43_3 (c : Cx) : d43_3 c = j43_3 c := by
  unfold j43_3
  funext t1 t2 t4 H
  refine Eq.trans (stepK_jn c.pc c.ic c.n _ H _ 6917529027641081878 c43_3) ?_
  kernel_rfl
def b43_2 (c : Cx) (j3 : F3) (t1 t2 t4 t5 t10 t11 : V) (H : List Blk) : X := p (aBin .eql t11 (ci 0)) fun x1 => condK x1 ((fun (t1 t2 t4 t5 t10 : V) (H : L) (c : Cx) (j3 : F3) => (aLoad true 7 t2).go H fun x2 H => p (aFld 0 t5) fun x3 => (aLoad false 1 x3).go H fun x4 H => (aLoad true 4 t10).go H fun x5 H => p (aCall c.pc 93 [x2, x4, x5]) fun x6 => (aStore 7 t2 x6).go H fun _ H => j3 t1 t2 t4 H) t1 t2 t4 t5 t10 H c j3) (j3 t1 t2 t4 H)
def j43_2 (c : Cx) : F6 := b43_2 c (j43_3 c)
theorem o43_2 (c : Cx) : d43_2 c = j43_2 c := by
  unfold j43_2; rw [← o43_3]
  funext t1 t2 t4 t5 t10 t11 H
  refine Eq.trans (stepK_jn c.pc c.ic c.n _ H _ 4611686018427391030 c43_2) ?_
  kernel_rfl
def b43_1 (c : Cx) (j2 : F6) (j3 : F3) (t0 t1 : V) (H : List Blk) : X := newK 2 H fun q H => (aBox (q + 0) t0).go H fun x1 H => (aAlloc (q + 1) z14).go H fun x2 H => newK 1 H fun q H => p (aFld 3 x1) fun x3 => (aLoad true 4 x3).go H fun x4 H => p (aCall c.pc 36 [x4, t1]) fun x5 => (fun (t0 t1 x1 x2 x3 x4 x5 : V) (q : Nat) (H : L) (c : Cx) (j2 : F6) (j3 : F3) => p (aExt 0 x5) fun x6 => p (aExt 1 x5) fun x7 => (aAlloc (q + 0) [(ci 0), (ci 0)]).go H fun x8 H => (aStore 2 x8 x6).go H fun _ H => guardK x7 true (fun k => (aFld 0 x1).go H k) H fun x9 H => guardK x7 true (fun k => (aLoad true 2 x9).go H k) H fun x10 H => (fun (t0 t1 x1 x2 x3 x4 x5 x6 x7 x8 x9 x10 : V) (H : L) (c : Cx) (j2 : F6) (j3 : F3) => guardK x7 true (fun k => (aFld 0 x8).go H k) H fun x11 H => guardK x7 true (fun k => (aLoad false 1 x11).go H k) H fun x12 H => guardK x7 true (fun k => (aCall c.pc 35 [x10, x12]).go H k) H fun x13 H => p (aPick x7 x13 cf) fun x14 => condK x14 ((fun (t0 t1 x1 x2 x3 x4 x5 x6 x7 x8 x9 x10 x11 x12 x13 x14 : V) (H : L) (c : Cx) (j2 : F6) (j3 : F3) => newK 1 H fun q H => (fun (t0 t1 x1 x2 x3 x4 x5 x6 x7 x8 x9 x10 x11 x12 x13 x14 : V) (q : Nat) (H : L) (c : Cx) (j2 : F6) (j3 : F3) => p (aFld 2 x1) fun x15 => (aLoad false 1 x15).go H fun x16 H => p (aFld 0 x8) fun x17 => (aLoad false 1 x17).go H fun x18 H => (fun (t0 t1 x1 x2 x3 x4 x5 x6 x7 x8 x9 x10 x11 x12 x13 x14 x15 x16 x17 x18 : V) (q : Nat) (H : L) (c : Cx) (j2 : F6) (j3 : F3) => p (aIx 4 x16 x18) fun x19 => (aLoad true 4 x19).go H fun x20 H => (aAlloc (q + 0) z0).go H fun x21 H => (aStore 4 x21 x20).go H fun _ H => newK 1 H fun q H => (aLoad true 4 x21).go H fun x22 H => p (aCall c.pc 88 [x22]) fun x23 => (fun (t0 t1 x1 x2 x3 x4 x5 x6 x7 x8 x9 x10 x11 x12 x13 x14 x15 x16 x17 x18 x19 x20 x21 x22 x23 : V) (q : Nat) (H : L) (c : Cx) (j2 : F6) (j3 : F3) => p (aExt 0 x23) fun x24 => p (aExt 1 x23) fun x25 => (aAlloc (q + 0) z1).go H fun x26 H => (aStore 8 x26 x24).go H fun _ H => condK x25 ((fun (t0 t1 x1 x2 x3 x4 x5 x6 x7 x8 x9 x10 x11 x12 x13 x14 x15 x16 x17 x18 x19 x20 x21 x22 x23 x24 x25 x26 : V) (H : L) (c : Cx) (j2 : F6) => newK 1 H fun q H => drawnK c.pc c.ic l43_0 q (cn 0 61 [(0, t0), (1, t1), (2, x1), (4, x2), (5, x8), (6, x7), (7, x21), (8, x26), (9, x25), (12, x5), (13, x3), (14, x4), (15, t1), (16, x5), (17, x6), (18, x7), (19, x7), (20, x7), (21, x9), (22, x10), (23, x11), (24, x12), (25, x13), (26, x14), (27, x15), (28, x16), (29, x17), (30, x18), (31, x19), (32, x20), (33, x23), (34, x22), (35, x23), (36, x24), (37, x25), (38, x25)]) H fun ts26 H => j2 (getT ts26 1) (getT ts26 2) (getT ts26 4) (getT ts26 5) (getT ts26 10) (getT ts26 11) H) t0 t1 x1 x2 x3 x4 x5 x6 x7 x8 x9 x10 x11 x12 x13 x14 x15 x16 x17 x18 x19 x20 x21 x22 x23 x24 x25 x26 H c j2) (j3 t1 x1 x2 H)) t0 t1 x1 x2 x3 x4 x5 x6 x7 x8 x9 x10 x11 x12 x13 x14 x15 x16 x17 x18 x19 x20 x21 x22 x23 q H c j2 j3) t0 t1 x1 x2 x3 x4 x5 x6 x7 x8 x9 x10 x11 x12 x13 x14 x15 x16 x17 x18 q H c j2 j3) t0 t1 x1 x2 x3 x4 x5 x6 x7 x8 x9 x10 x11 x12 x13 x14 q H c j2 j3) t0 t1 x1 x2 x3 x4 x5 x6 x7 x8 x9 x10 x11 x12 x13 x14 H c j2 j3) (j3 t1 x1 x2 H)) t0 t1 x1 x2 x3 x4 x5 x6 x7 x8 x9 x10 H c j2 j3) t0 t1 x1 x2 x3 x4 x5 q H c j2 j3
def j43_1 (c : Cx) : F2 := b43_1 c (j43_2 c) (j43_3 c)
theorem o43_1 (c : Cx) : d43_1 c = j43_1 c := by
  unfold j43_1; rw [← o43_2, ← o43_3]
  funext t0 t1 H
  refine Eq.trans (stepK_jn c.pc c.ic c.n _ H _ 2305843009213693955 c43_1) ?_
  kernel_rfl
def b43_0 (c : Cx) (j1 : F2) (t0 t1 : V) (H : List Blk) : X := j1 t0 t1 H
def s43 (c : Cx) (args : List V) (H : List Blk) : X := argsK 2 args (b43_0 c (j43_1 c) (getT args 0) (getT args 1) H)
theorem e43 (pc ic n args H) : runK pc ic n c43 args H = s43 ⟨pc, ic, n⟩ args H := by
  unfold s43; rw [← o43_1]
  kernel_rfl
def L43 : Leaf := ⟨c43, fun pc ic n => s43 ⟨pc, ic, n⟩, e43⟩
theorem kk43 : chkFn Go.Proofs.Tryz.prog ET 43 c43 = true := by kernel_rfl

def c44_2 : C := (.seq (.seq (.reg 0 none [m 7 (.t 6) 0, o 8 (.fld 7) [.t 2] 1, o 9 (.load false 1) [.t 8] 2, o 10 (.len 1) [.t 9] 3, o 11 (.bin .lss) [.t 7, .t 10] 4]) (.cond (.t 11) .skip (.exit 0))) (.seq (.blk 1 (.seq (.reg 0 none [o 14 (.fld 7) [.t 2] 0, o 15 (.load false 1) [.t 14] 1, m 16 (.t 6) 2, o 17 (.ix 2) [.t 15, .t 16] 3, o 18 (.fld 0) [.t 17] 4, o 19 (.load false 1) [.t 18] 5, m 20 (.t 1) 6, o 21 (.bin .eql) [.t 19, .t 20] 7]) (.cond (.t 21) (.seq (.reg 0 none [o 22 (.fld 7) [.t 2] 0, o 23 (.load false 1) [.t 22] 1, m 24 (.t 6) 2, o 25 (.ix 2) [.t 23, .t 24] 3, o 26 (.fld 1) [.t 25] 4, o 27 (.load false 1) [.t 26] 5, m 4 (.t 27) 6, m 5 (.c ct) 7]) .ret) .skip))) (.reg 0 none [m 12 (.t 6) 0, o 13 (.bin .add) [.t 12, .c (ci 1)] 1, m 6 (.t 13) 2])))
def c44_s1 : C := (.seq (.reg 0 none [m 4 (.c (ci 0)) 0, m 5 (.c cf) 1]) .ret)
def c44_1 : C := (.seq (.reg 1 none [o 2 (.box 0) [.t 0] 0, m 4 (.c (ci 0)) 1, m 5 (.c cf) 2]) (.seq (.seq (.reg 0 none [m 6 (.c (ci 0)) 0]) (.blk 0 (.loop 536870982 false c44_2))) c44_s1))
def c44 : Fn := { fid := 44, np := 2, ntmps := 28, body := (.jn 268435459 c44_1), res := [.tmp 4, .tmp 5] }
def d44_1 (c : Cx) (t0 t1 : V) (H : List Blk) : X := stepK c.pc c.ic c.n (.jn 268435459 c44_1) (cn 0 28 [(0, t0), (1, t1)]) H (kTop c44.res)
def k44_1 (c : Cx) : KT := thenK (stepK c.pc c.ic c.n c44_s1) (kTop c44.res)
def k44_2 (c : Cx) : KT := blkK 0 (k44_1 c)
def d44_2 (c : Cx) (m n2 : Nat) (t1 t2 t6 : V) (H : List Blk) : X := jnK (loopsK (stepK c.pc c.ic c.n c44_2) 536870982 false n2 m) (cn 0 28 [(1, t1), (2, t2), (6, t6)]) H (k44_2 c) 536870982
def b44_2 (c : Cx) (r2 : F3) (n2 : Nat) (t1 t2 t6 : V) (H : List Blk) : X := p (aFld 7 t2) fun x1 => (aLoad false 1 x1).go H fun x2 H => (aLen 1 x2).go H fun x3 H => p (aBin .lss t6 x3) fun x4 => condK x4 ((fun (t1 t2 t6 : V) (H : L) (r2 : F3) => p (aFld 7 t2) fun x5 => (aLoad false 1 x5).go H fun x6 H => (fun (t1 t2 t6 x6 : V) (H : L) (r2 : F3) => p (aIx 2 x6 t6) fun x7 => p (aFld 0 x7) fun x8 => (aLoad false 1 x8).go H fun x9 H => p (aBin .eql x9 t1) fun x10 => condK x10 ((fun (t2 t6 : V) (H : L) => p (aFld 7 t2) fun x11 => (aLoad false 1 x11).go H fun x12 H => p (aIx 2 x12 t6) fun x13 => p (aFld 1 x13) fun x14 => (aLoad false 1 x14).go H fun x15 H => some (.tup [x15, ct], H)) t2 t6 H) (p (aBin .add t6 (ci 1)) fun x16 => r2 t1 t2 x16 H)) t1 t2 t6 x6 H r2) t1 t2 t6 H r2) (some (.tup [(ci 0), cf], H))
def j44_2 (c : Cx) : Nat → Nat → F3 := recN (fun _ _ _ _ _ => none) fun ih n2 => b44_2 c (ih n2) n2
theorem o44_2 (c : Cx) : d44_2 c = j44_2 c := by
  unfold j44_2
  refine recN_ok (by kernel_rfl) fun m => funext fun n2 => ?_
  funext t1 t2 t6 H
  refine Eq.trans (jnK_eq 536870982 _ _ H _) ?_
  kernel_rfl
def b44_1 (c : Cx) (j2 : Nat → Nat → F3) (t0 t1 : V) (H : List Blk) : X := newK 1 H fun q H => (aBox (q + 0) t0).go H fun x1 H => j2 c.n H.length t1 x1 (ci 0) H
def j44_1 (c : Cx) : F2 := b44_1 c (j44_2 c)
theorem o44_1 (c : Cx) : d44_1 c = j44_1 c := by
  unfold j44_1; rw [← o44_2]
  funext t0 t1 H
  refine Eq.trans (stepK_jn c.pc c.ic c.n _ H _ 268435459 c44_1) ?_
  kernel_rfl
def b44_0 (c : Cx) (j1 : F2) (t0 t1 : V) (H : List Blk) : X := j1 t0 t1 H
def s44 (c : Cx) (args : List V) (H : List Blk) : X := argsK 2 args (b44_0 c (j44_1 c) (getT args 0) (getT args 1) H)
theorem e44 (pc ic n args H) : runK pc ic n c44 args H = s44 ⟨pc, ic, n⟩ args H := by
  unfold s44; rw [← o44_1]
  kernel_rfl
def L44 : Leaf := ⟨c44, fun pc ic n => s44 ⟨pc, ic, n⟩, e44⟩
theorem kk44 : chkFn Go.Proofs.Tryz.prog ET 44 c44 = true := by kernel_rfl

def c45_2 : C := (.seq (.seq (.reg 0 none [m 5 (.t 4) 0, o 6 (.fld 2) [.t 1] 1, o 7 (.load false 1) [.t 6] 2, o 8 (.len 1) [.t 7] 3, o 9 (.bin .lss) [.t 5, .t 8] 4]) (.cond (.t 9) .skip (.exit 0))) (.seq (.blk 1 (.reg 1 none [m 12 (.t 3) 0, m 13 (.t 4) 1, o 14 (.build [(ci 0), (ci 0)] [(0, 1), (1, 1)]) [.t 13, .c (ci 1)] 2, o 15 (.bsl 2 z13 1 [0]) [.t 14] 3, o 16 (.app 0 2 16) [.t 12, .t 15] 4, m 3 (.t 16) 5])) (.reg 0 none [m 10 (.t 4) 0, o 11 (.bin .add) [.t 10, .c (ci 1)] 1, m 4 (.t 11) 2])))
def c45_s1 : C := (.seq (.reg 0 none [m 17 (.t 3) 0, m 2 (.t 17) 1]) .ret)
def c45_1 : C := (.seq (.reg 1 none [o 1 (.box 0) [.t 0] 0, m 2 (.c .nilS) 1]) (.seq (.reg 0 none [m 3 (.c .nilS) 0]) (.seq (.seq (.reg 0 none [m 4 (.c (ci 0)) 0]) (.blk 0 (.loop 524314 false c45_2))) c45_s1)))
def c45 : Fn := { fid := 45, np := 1, ntmps := 18, body := (.jn 262145 c45_1), res := [.tmp 2] }
def d45_1 (c : Cx) (t0 : V) (H : List Blk) : X := stepK c.pc c.ic c.n (.jn 262145 c45_1) (cn 0 18 [(0, t0)]) H (kTop c45.res)
def k45_1 (c : Cx) : KT := thenK (stepK c.pc c.ic c.n c45_s1) (kTop c45.res)
def k45_2 (c : Cx) : KT := blkK 0 (k45_1 c)
def d45_2 (c : Cx) (m n2 : Nat) (t1 t3 t4 : V) (H : List Blk) : X := jnK (loopsK (stepK c.pc c.ic c.n c45_2) 524314 false n2 m) (cn 0 18 [(1, t1), (3, t3), (4, t4)]) H (k45_2 c) 524314
def b45_2 (c : Cx) (r2 : F3) (n2 : Nat) (t1 t3 t4 : V) (H : List Blk) : X := p (aFld 2 t1) fun x1 => (aLoad false 1 x1).go H fun x2 H => (aLen 1 x2).go H fun x3 H => p (aBin .lss t4 x3) fun x4 => condK x4 ((fun (t1 t3 t4 : V) (H : L) (r2 : F3) => newK 1 H fun q H => p (aBuild [(ci 0), (ci 0)] [(0, 1), (1, 1)] [t4, (ci 1)]) fun x5 => p (aBsl 2 z13 1 [0] [x5]) fun x6 => (aApp (q + 0) 2 16 t3 x6).go H fun x7 H => p (aBin .add t4 (ci 1)) fun x8 => r2 t1 x7 x8 H) t1 t3 t4 H r2) (some (t3, H))
def j45_2 (c : Cx) : Nat → Nat → F3 := recN (fun _ _ _ _ _ => none) fun ih n2 => b45_2 c (ih n2) n2
theorem o45_2 (c : Cx) : d45_2 c = j45_2 c := by
  unfold j45_2
  refine recN_ok (by kernel_rfl) fun m => funext fun n2 => ?_
  funext t1 t3 t4 H
  refine Eq.trans (jnK_eq 524314 _ _ H _) ?_
  kernel_rfl
def b45_1 (c : Cx) (j2 : Nat → Nat → F3) (t0 : V) (H : List Blk) : X := newK 1 H fun q H => (aBox (q + 0) t0).go H fun x1 H => j2 c.n H.length x1 .nilS (ci 0) H
def j45_1 (c : Cx) : F1 := b45_1 c (j45_2 c)
theorem o45_1 (c : Cx) : d45_1 c = j45_1 c := by
  unfold j45_1; rw [← o45_2]
  funext t0 H
  refine Eq.trans (stepK_jn c.pc c.ic c.n _ H _ 262145 c45_1) ?_
  kernel_rfl
def b45_0 (c : Cx) (j1 : F1) (t0 : V) (H : List Blk) : X := j1 t0 H
def s45 (c : Cx) (args : List V) (H : List Blk) : X := argsK 1 args (b45_0 c (j45_1 c) (getT args 0) H)
theorem e45 (pc ic n args H) : runK pc ic n c45 args H = s45 ⟨pc, ic, n⟩ args H := by
  unfold s45; rw [← o45_1]
  kernel_rfl
def L45 : Leaf := ⟨c45, fun pc ic n => s45 ⟨pc, ic, n⟩, e45⟩
theorem kk45 : chkFn Go.Proofs.Tryz.prog ET 45 c45 = true := by kernel_rfl

def c46 : Fn := { fid := 46, np := 2, ntmps := 10, body := (.seq (.reg 2 none [o 2 (.box 0) [.t 0] 0, o 3 (.box 1) [.t 1] 1, m 4 (.c cf) 2]) (.seq (.reg 0 none [o 5 (.load true 7) [.t 2] 0, o 6 (.load true 2) [.t 3] 1, o 7 (.call 50) [.t 5, .t 6] 2, o 8 (.fldv 1 1 false) [.t 7] 3, o 9 (.bin .eql) [.t 8, .c (ci 2)] 4, m 4 (.t 9) 5]) .ret)), res := [.tmp 4] }
def b46_0 (c : Cx) (t0 t1 : V) (H : List Blk) : X := newK 2 H fun q H => (aBox (q + 0) t0).go H fun x1 H => (aBox (q + 1) t1).go H fun x2 H => (aLoad true 7 x1).go H fun x3 H => (aLoad true 2 x2).go H fun x4 H => p (aCall c.pc 50 [x3, x4]) fun x5 => p (aFldv 1 1 false x5) fun x6 => p (aBin .eql x6 (ci 2)) fun x7 => some (x7, H)
def s46 (c : Cx) (args : List V) (H : List Blk) : X := argsK 2 args (b46_0 c (getT args 0) (getT args 1) H)
theorem e46 (pc ic n args H) : runK pc ic n c46 args H = s46 ⟨pc, ic, n⟩ args H := by
  unfold s46
  kernel_rfl
def L46 : Leaf := ⟨c46, fun pc ic n => s46 ⟨pc, ic, n⟩, e46⟩
theorem kk46 : chkFn Go.Proofs.Tryz.prog ET 46 c46 = true := by kernel_rfl

def c47 : Fn := { fid := 47, np := 3, ntmps := 17, body := (.seq (.reg 1 none [o 3 (.box 0) [.t 0] 0, m 6 (.c .nilS) 1]) (.seq (.reg 0 none [o 10 (.load true 7) [.t 3] 0, m 11 (.t 1) 1, m 12 (.t 2) 2, o 13 (.call 101) [.t 10, .t 11, .t 12] 3, m 9 (.t 13) 4, o 14 (.ext 0) [.t 9] 5, o 15 (.ext 1) [.t 9] 6, m 7 (.t 14) 7, m 8 (.t 15) 8]) (.seq (.reg 0 none [m 16 (.t 7) 0, m 6 (.t 16) 1]) .ret))), res := [.tmp 6] }
def b47_0 (c : Cx) (t0 t1 t2 : V) (H : List Blk) : X := newK 1 H fun q H => (aBox (q + 0) t0).go H fun x1 H => (aLoad true 7 x1).go H fun x2 H => p (aCall c.pc 101 [x2, t1, t2]) fun x3 => p (aExt 0 x3) fun x4 => p (aExt 1 x3) fun x5 => some (x4, H)
def s47 (c : Cx) (args : List V) (H : List Blk) : X := argsK 3 args (b47_0 c (getT args 0) (getT args 1) (getT args 2) H)
theorem e47 (pc ic n args H) : runK pc ic n c47 args H = s47 ⟨pc, ic, n⟩ args H := by
  unfold s47
  kernel_rfl
def L47 : Leaf := ⟨c47, fun pc ic n => s47 ⟨pc, ic, n⟩, e47⟩
theorem kk47 : chkFn Go.Proofs.Tryz.prog ET 47 c47 = true := by kernel_rfl

def c48 : Fn := { fid := 48, np := 3, ntmps := 17, body := (.seq (.reg 1 none [o 3 (.box 0) [.t 0] 0, m 6 (.c (ci 0)) 1]) (.seq (.reg 0 none [o 10 (.load true 7) [.t 3] 0, m 11 (.t 1) 1, m 12 (.t 2) 2, o 13 (.call 101) [.t 10, .t 11, .t 12] 3, m 9 (.t 13) 4, o 14 (.ext 0) [.t 9] 5, o 15 (.ext 1) [.t 9] 6, m 7 (.t 14) 7, m 8 (.t 15) 8]) (.seq (.reg 0 none [m 16 (.t 8) 0, m 6 (.t 16) 1]) .ret))), res := [.tmp 6] }
def b48_0 (c : Cx) (t0 t1 t2 : V) (H : List Blk) : X := newK 1 H fun q H => (aBox (q + 0) t0).go H fun x1 H => (aLoad true 7 x1).go H fun x2 H => p (aCall c.pc 101 [x2, t1, t2]) fun x3 => p (aExt 0 x3) fun x4 => p (aExt 1 x3) fun x5 => some (x5, H)
def s48 (c : Cx) (args : List V) (H : List Blk) : X := argsK 3 args (b48_0 c (getT args 0) (getT args 1) (getT args 2) H)
theorem e48 (pc ic n args H) : runK pc ic n c48 args H = s48 ⟨pc, ic, n⟩ args H := by
  unfold s48
  kernel_rfl
def L48 : Leaf := ⟨c48, fun pc ic n => s48 ⟨pc, ic, n⟩, e48⟩
theorem kk48 : chkFn Go.Proofs.Tryz.prog ET 48 c48 = true := by kernel_rfl

def c49_1 : C := (.seq (.reg 2 none [o 1 (.box 0) [.t 0] 0, o 2 (.alloc 1 z1) [] 1]) (.seq (.reg 0 none [o 3 (.fld 4) [.t 1] 0, o 4 (.load true 2) [.t 3] 1, o 5 (.call 102) [.t 4] 2, o 6 (.fld 4) [.t 1] 3, ⟨none, .store 2, [.t 6, .t 5], none, 0, 4⟩]) (.seq (.reg 1 none [o 7 (.bsl 2 z5 0 []) [] 0, o 8 (.fld 7) [.t 1] 1, o 9 (.load false 1) [.t 8] 2, o 10 (.app 0 2 24) [.t 7, .t 9] 3, o 11 (.fld 7) [.t 1] 4, ⟨none, .store 1, [.t 11, .t 10], none, 0, 5⟩]) (.seq (.reg 0 none [o 12 (.load true 8) [.t 1] 0, ⟨none, .store 8, [.t 2, .t 12], none, 0, 1⟩]) .ret))))
def c49 : Fn := { fid := 49, np := 1, ntmps := 13, body := (.jn 8193 c49_1), res := [.cell 2 true 8] }
def d49_1 (c : Cx) (t0 : V) (H : List Blk) : X := stepK c.pc c.ic c.n (.jn 8193 c49_1) (cn 0 13 [(0, t0)]) H (kTop c49.res)
def b49_1 (c : Cx) (t0 : V) (H : List Blk) : X := newK 2 H fun q H => (aBox (q + 0) t0).go H fun x1 H => (aAlloc (q + 1) z1).go H fun x2 H => p (aFld 4 x1) fun x3 => (fun (x1 x2 x3 : V) (H : L) (c : Cx) => (aLoad true 2 x3).go H fun x4 H => p (aCall c.pc 102 [x4]) fun x5 => p (aFld 4 x1) fun x6 => (aStore 2 x6 x5).go H fun _ H => newK 1 H fun q H => p (aBsl 2 z5 0 [] []) fun x7 => p (aFld 7 x1) fun x8 => (fun (x1 x2 x7 x8 : V) (q : Nat) (H : L) => (aLoad false 1 x8).go H fun x9 H => (aApp (q + 0) 2 24 x7 x9).go H fun x10 H => p (aFld 7 x1) fun x11 => (aStore 1 x11 x10).go H fun _ H => (aLoad true 8 x1).go H fun x12 H => (aStore 8 x2 x12).go H fun _ H => bnd (loadV true 8 x2 H) fun x13 => some (x13, H)) x1 x2 x7 x8 q H) x1 x2 x3 H c
def j49_1 (c : Cx) : F1 := b49_1 c
theorem o49_1 (c : Cx) : d49_1 c = j49_1 c := by
  unfold j49_1
  funext t0 H
  refine Eq.trans (stepK_jn c.pc c.ic c.n _ H _ 8193 c49_1) ?_
  kernel_rfl
def b49_0 (c : Cx) (j1 : F1) (t0 : V) (H : List Blk) : X := j1 t0 H
def s49 (c : Cx) (args : List V) (H : List Blk) : X := argsK 1 args (b49_0 c (j49_1 c) (getT args 0) H)
theorem e49 (pc ic n args H) : runK pc ic n c49 args H = s49 ⟨pc, ic, n⟩ args H := by
  unfold s49; rw [← o49_1]
  kernel_rfl
def L49 : Leaf := ⟨c49, fun pc ic n => s49 ⟨pc, ic, n⟩, e49⟩
theorem kk49 : chkFn Go.Proofs.Tryz.prog ET 49 c49 = true := by kernel_rfl

def c50_2 : C := (.seq (.reg 0 none [o 31 (.load true 8) [.t 5] 0, ⟨none, .store 8, [.t 4, .t 31], none, 0, 1⟩]) .ret)
def l50_0 : List O := [o 20 (.fld 2) [.t 2] 0, ⟨some 21, .load false 1, [.t 20], none, 1, 1⟩, o 22 (.fld 0) [.t 3] 2, ⟨some 23, .load false 1, [.t 22], none, 4, 3⟩, ⟨some 24, .ix 4, [.t 21, .t 23], none, 15, 4⟩, ⟨some 25, .load true 4, [.t 24], none, 31, 5⟩, o 26 (.fld 1) [.t 3] 6, ⟨some 27, .load false 1, [.t 26], none, 64, 7⟩, ⟨some 28, .call 16, [.t 25, .t 27], none, 255, 8⟩, ⟨some 19, .mov, [.t 28], none, 511, 9⟩, ⟨some 29, .ext 0, [.t 19], none, 1023, 10⟩, ⟨some 30, .ext 1, [.t 19], none, 1023, 11⟩, o 5 (.alloc 0 z1) [] 12, ⟨none, .store 8, [.t 5, .t 29], none, 6143, 13⟩, ⟨some 6, .mov, [.t 30], none, 16383, 14⟩]
def c50_1 : C := (.seq (.reg 3 none [o 2 (.box 0) [.t 0] 0, o 3 (.box 1) [.t 1] 1, o 4 (.alloc 2 z1) [] 2]) (.seq (.seq (.reg 0 none [o 7 (.fld 0) [.t 3] 0, o 8 (.load false 1) [.t 7] 1, o 9 (.bin .lss) [.t 8, .c (ci 0)] 2, m 10 (.t 9) 3, ⟨some 11, .fld 0, [.t 3], some (10, false), 0, 4⟩, ⟨some 12, .load false 1, [.t 11], some (10, false), 0, 5⟩, ⟨some 13, .fld 2, [.t 2], some (10, false), 0, 6⟩, ⟨some 14, .load false 1, [.t 13], some (10, false), 0, 7⟩, ⟨some 15, .len 1, [.t 14], some (10, false), 0, 8⟩, ⟨some 16, .bin .geq, [.t 12, .t 15], some (10, false), 0, 9⟩, o 17 .pick [.t 10, .c ct, .t 16] 10]) (.cond (.t 17) (.seq (.reg 0 none [o 18 (.build z1 []) [] 0, ⟨none, .store 8, [.t 4, .t 18], none, 0, 1⟩]) .ret) .skip)) (.seq (.reg 1 (some ⟨false, [0, 1, 2, 3, 4, 5, 6, 7, 8, 9, 10, 12, 13, 11, 14], 32⟩) l50_0) (.jn 8589934640 c50_2))))
def c50 : Fn := { fid := 50, np := 2, ntmps := 32, body := (.jn 4294967299 c50_1), res := [.cell 4 true 8] }
def d50_1 (c : Cx) (t0 t1 : V) (H : List Blk) : X := stepK c.pc c.ic c.n (.jn 4294967299 c50_1) (cn 0 32 [(0, t0), (1, t1)]) H (kTop c50.res)
def d50_2 (c : Cx) (t4 t5 : V) (H : List Blk) : X := stepK c.pc c.ic c.n (.jn 8589934640 c50_2) (cn 0 32 [(4, t4), (5, t5)]) H (kTop c50.res)
def b50_2 (c : Cx) (t4 t5 : V) (H : List Blk) : X := (aLoad true 8 t5).go H fun x1 H => (aStore 8 t4 x1).go H fun _ H => bnd (loadV true 8 t4 H) fun x2 => some (x2, H)
def j50_2 (c : Cx) : F2 := b50_2 c
theorem o50_2 (c : Cx) : d50_2 c = j50_2 c := by
  unfold j50_2
  funext t4 t5 H
  refine Eq.trans (stepK_jn c.pc c.ic c.n _ H _ 8589934640 c50_2) ?_
  kernel_rfl
def b50_1 (c : Cx) (j2 : F2) (t0 t1 : V) (H : List Blk) : X := newK 3 H fun q H => (aBox (q + 0) t0).go H fun x1 H => (aBox (q + 1) t1).go H fun x2 H => (aAlloc (q + 2) z1).go H fun x3 H => p (aFld 0 x2) fun x4 => (aLoad false 1 x4).go H fun x5 H => (fun (t0 t1 x1 x2 x3 x4 x5 : V) (H : L) (c : Cx) (j2 : F2) => p (aBin .lss x5 (ci 0)) fun x6 => guardK x6 false (fun k => (aFld 0 x2).go H k) H fun x7 H => guardK x6 false (fun k => (aLoad false 1 x7).go H k) H fun x8 H => guardK x6 false (fun k => (aFld 2 x1).go H k) H fun x9 H => (fun (t0 t1 x1 x2 x3 x4 x5 x6 x7 x8 x9 : V) (H : L) (c : Cx) (j2 : F2) => guardK x6 false (fun k => (aLoad false 1 x9).go H k) H fun x10 H => guardK x6 false (fun k => (aLen 1 x10).go H k) H fun x11 H => guardK x6 false (fun k => (aBin .geq x8 x11).go H k) H fun x12 H => p (aPick x6 ct x12) fun x13 => condK x13 (p (aBuild z1 [] []) fun x14 => (aStore 8 x3 x14).go H fun _ H => bnd (loadV true 8 x3 H) fun x15 => some (x15, H)) ((fun (t0 t1 x1 x2 x3 x4 x5 x6 x7 x8 x9 x10 x11 x12 x13 : V) (H : L) (c : Cx) (j2 : F2) => newK 1 H fun q H => drawnK c.pc c.ic l50_0 q (cn 0 32 [(0, t0), (1, t1), (2, x1), (3, x2), (4, x3), (7, x4), (8, x5), (9, x6), (10, x6), (11, x7), (12, x8), (13, x9), (14, x10), (15, x11), (16, x12), (17, x13)]) H fun ts15 H => j2 (getT ts15 4) (getT ts15 5) H) t0 t1 x1 x2 x3 x4 x5 x6 x7 x8 x9 x10 x11 x12 x13 H c j2)) t0 t1 x1 x2 x3 x4 x5 x6 x7 x8 x9 H c j2) t0 t1 x1 x2 x3 x4 x5 H c j2
def j50_1 (c : Cx) : F2 := b50_1 c (j50_2 c)
theorem o50_1 (c : Cx) : d50_1 c = j50_1 c := by
  unfold j50_1; rw [← o50_2]
  funext t0 t1 H
  refine Eq.trans (stepK_jn c.pc c.ic c.n _ H _ 4294967299 c50_1) ?_
  kernel_rfl
def b50_0 (c : Cx) (j1 : F2) (t0 t1 : V) (H : List Blk) : X := j1 t0 t1 H
def s50 (c : Cx) (args : List V) (H : List Blk) : X := argsK 2 args (b50_0 c (j50_1 c) (getT args 0) (getT args 1) H)
theorem e50 (pc ic n args H) : runK pc ic n c50 args H = s50 ⟨pc, ic, n⟩ args H := by
  unfold s50; rw [← o50_1]
  kernel_rfl
def L50 : Leaf := ⟨c50, fun pc ic n => s50 ⟨pc, ic, n⟩, e50⟩
theorem kk50 : chkFn Go.Proofs.Tryz.prog ET 50 c50 = true := by kernel_rfl

def c51_3 : C := (.seq (.reg 0 (some ⟨true, [], 97⟩) [o 83 (.load true 8) [.t 8] 0, m 84 (.t 11) 1, m 85 (.t 12) 2, ⟨some 86, .ix 1, [.t 84, .t 85], none, 6, 3⟩, ⟨some 87, .load false 1, [.t 86], none, 14, 4⟩, m 88 (.t 14) 5, ⟨some 89, .call 105, [.t 83, .t 87, .t 88], none, 63, 6⟩, ⟨none, .store 8, [.t 8, .t 89], none, 127, 7⟩]) (.reg 0 none [o 90 (.load true 7) [.t 3] 0, o 91 (.load true 4) [.t 4] 1, m 92 (.t 13) 2, o 93 (.call 51) [.t 90, .t 91, .t 92] 3, ⟨none, .store 4, [.t 4, .t 93], none, 0, 4⟩]))
def c51_s1 : C := (.reg 0 none [m 66 (.t 12) 0, o 67 (.bin .add) [.t 66, .c (ci 1)] 1, m 12 (.t 67) 2])
def l51_0 : List O := [o 76 (.load true 7) [.t 3] 0, m 77 (.t 13) 1, ⟨some 78, .ix 2, [.t 77, .c (ci 0)], none, 2, 2⟩, ⟨some 79, .load true 2, [.t 78], none, 6, 3⟩, ⟨some 80, .call 19, [.t 76, .t 79], none, 15, 4⟩, ⟨some 75, .mov, [.t 80], none, 31, 5⟩, ⟨some 81, .ext 0, [.t 75], none, 63, 6⟩, ⟨some 82, .ext 1, [.t 75], none, 63, 7⟩, o 15 (.alloc 0 z1) [] 8, ⟨some 14, .mov, [.t 81], none, 383, 9⟩, ⟨none, .store 8, [.t 15, .t 82], none, 1023, 10⟩]
def c51_2 : C := (.seq (.seq (.reg 0 none [m 62 (.t 12) 0, m 63 (.t 11) 1, o 64 (.len 1) [.t 63] 2, o 65 (.bin .lss) [.t 62, .t 64] 3]) (.cond (.t 65) .skip (.exit 0))) (.seq (.blk 1 (.seq (.reg 0 (some ⟨true, [], 97⟩) [o 68 (.load true 7) [.t 3] 0, m 69 (.t 2) 1, m 70 (.t 11) 2, m 71 (.t 12) 3, ⟨some 72, .ix 1, [.t 70, .t 71], none, 12, 4⟩, ⟨some 73, .load false 1, [.t 72], none, 28, 5⟩, ⟨some 74, .call 47, [.t 68, .t 69, .t 73], none, 63, 6⟩, ⟨some 13, .mov, [.t 74], none, 127, 7⟩]) (.seq (.reg 1 (some ⟨false, [0, 1, 2, 3, 4, 5, 6, 8, 9, 7, 10], 97⟩) l51_0) (.jn 475368975085586025561263733084 c51_3)))) c51_s1))
def c51_s2 : C := (.seq (.reg 0 none [o 94 (.load true 4) [.t 4] 0, o 95 (.load true 8) [.t 8] 1, o 96 (.call 103) [.t 94, .t 95] 2, ⟨none, .store 4, [.t 6, .t 96], none, 0, 3⟩]) .ret)
def c51_1 : C := (.seq (.reg 1 none [o 25 (.load true 4) [.t 4] 0, m 26 (.t 7) 1, o 27 (.call 16) [.t 25, .t 26] 2, m 24 (.t 27) 3, o 28 (.ext 0) [.t 24] 4, o 29 (.ext 1) [.t 24] 5, o 9 (.alloc 0 z1) [] 6, ⟨none, .store 8, [.t 9, .t 28], none, 0, 7⟩, m 10 (.t 29) 8]) (.seq (.seq (.reg 0 none [m 30 (.t 10) 0, m 31 (.t 30) 1, ⟨some 32, .fld 1, [.t 8], some (31, true), 0, 2⟩, ⟨some 33, .load false 1, [.t 32], some (31, true), 0, 3⟩, ⟨some 34, .bin .neq, [.t 33, .c (ci 2)], some (31, true), 0, 4⟩, o 35 .pick [.t 31, .t 34, .c cf] 5]) (.cond (.t 35) (.seq (.reg 0 none [o 36 (.fld 3) [.t 9] 0, o 37 (.load false 1) [.t 36] 1, o 38 (.bin .add) [.t 37, .c (ci 1)] 2, o 39 (.fld 3) [.t 9] 3, ⟨none, .store 1, [.t 39, .t 38], none, 0, 4⟩]) (.seq (.reg 0 none [o 40 (.load true 4) [.t 4] 0, o 41 (.load true 8) [.t 9] 1, o 42 (.call 103) [.t 40, .t 41] 2, ⟨none, .store 4, [.t 6, .t 42], none, 0, 3⟩]) .ret)) .skip)) (.seq (.reg 0 none [m 43 (.t 7) 0, o 44 (.fld 0) [.t 8] 1, ⟨none, .store 1, [.t 44, .t 43], none, 0, 2⟩, o 45 (.fld 3) [.t 8] 3, ⟨none, .store 1, [.t 45, .c (ci 1)], none, 0, 4⟩, o 46 (.fld 7) [.t 8] 5, ⟨none, .store 1, [.t 46, .c .nilS], none, 0, 6⟩]) (.seq (.seq (.reg 0 (some ⟨true, [], 97⟩) [o 47 (.load true 7) [.t 3] 0, m 48 (.t 2) 1, ⟨some 49, .ix 2, [.t 48, .c (ci 0)], none, 2, 2⟩, ⟨some 50, .load true 2, [.t 49], none, 6, 3⟩, ⟨some 51, .call 46, [.t 47, .t 50], none, 15, 4⟩, ⟨some 52, .un .not, [.t 51], none, 31, 5⟩]) (.cond (.t 52) (.seq (.reg 0 none [o 53 (.load true 4) [.t 4] 0, o 54 (.load true 8) [.t 8] 1, o 55 (.call 103) [.t 53, .t 54] 2, ⟨none, .store 4, [.t 6, .t 55], none, 0, 3⟩]) .ret) .skip)) (.seq (.reg 0 none [o 56 (.load true 7) [.t 3] 0, m 57 (.t 2) 1, o 58 (.call 104) [.t 56, .t 57] 2, m 11 (.t 58) 3]) (.seq (.reg 0 none [o 59 (.load true 4) [.t 4] 0, o 60 (.load true 8) [.t 8] 1, o 61 (.call 103) [.t 59, .t 60] 2, ⟨none, .store 4, [.t 4, .t 61], none, 0, 3⟩]) (.seq (.seq (.reg 0 none [m 12 (.c (ci 0)) 0]) (.blk 0 (.loop 316912650057057350374175807836 true c51_2))) c51_s2)))))))
def l51_1 : List O := [o 17 (.load true 7) [.t 3] 0, m 18 (.t 2) 1, ⟨some 19, .ix 2, [.t 18, .c (ci 0)], none, 2, 2⟩, ⟨some 20, .load true 2, [.t 19], none, 6, 3⟩, ⟨some 21, .call 19, [.t 17, .t 20], none, 15, 4⟩, ⟨some 16, .mov, [.t 21], none, 31, 5⟩, ⟨some 22, .ext 0, [.t 16], none, 63, 6⟩, ⟨some 23, .ext 1, [.t 16], none, 63, 7⟩, o 8 (.alloc 0 z1) [] 8, ⟨some 7, .mov, [.t 22], none, 383, 9⟩, ⟨none, .store 8, [.t 8, .t 23], none, 1023, 10⟩]
def c51 : Fn := { fid := 51, np := 3, ntmps := 97, body := (.seq (.reg 3 none [o 3 (.box 0) [.t 0] 0, o 4 (.box 1) [.t 1] 1, o 6 (.alloc 2 z0) [] 2]) (.seq (.reg 1 (some ⟨false, [0, 1, 2, 3, 4, 5, 6, 8, 9, 7, 10], 97⟩) l51_1) (.jn 158456325028528675187087901148 c51_1))), res := [.cell 6 true 4] }
def d51_1 (c : Cx) (t2 t3 t4 t6 t7 t8 : V) (H : List Blk) : X := stepK c.pc c.ic c.n (.jn 158456325028528675187087901148 c51_1) (cn 0 97 [(2, t2), (3, t3), (4, t4), (6, t6), (7, t7), (8, t8)]) H (kTop c51.res)
def k51_1 (c : Cx) : KT := thenK (stepK c.pc c.ic c.n c51_s2) (kTop c51.res)
def k51_2 (c : Cx) : KT := blkK 0 (k51_1 c)
def d51_2 (c : Cx) (m n2 : Nat) (t2 t3 t4 t6 t8 t11 t12 : V) (H : List Blk) : X := jnK (loopsK (stepK c.pc c.ic c.n c51_2) 316912650057057350374175807836 true n2 m) (cn 0 97 [(2, t2), (3, t3), (4, t4), (6, t6), (8, t8), (11, t11), (12, t12)]) H (k51_2 c) 316912650057057350374175807836
def k51_3 (c : Cx) (m2 n2 : Nat) : KT := thenK (fun ts H k => jnK (loopsK (stepK c.pc c.ic c.n c51_2) 316912650057057350374175807836 true n2 m2) (maskT 316912650057057350374175807836 0 ts) H k 316912650057057350374175807836) (k51_2 c)
def k51_4 (c : Cx) (m2 n2 : Nat) : KT := thenK (stepK c.pc c.ic c.n c51_s1) (k51_3 c m2 n2)
def k51_5 (c : Cx) (m2 n2 : Nat) : KT := blkK 1 (k51_4 c m2 n2)
def d51_3 (c : Cx) (m2 n2 : Nat) (t2 t3 t4 t6 t8 t11 t12 t13 t14 : V) (H : List Blk) : X := stepK c.pc c.ic c.n (.jn 475368975085586025561263733084 c51_3) (cn 0 97 [(2, t2), (3, t3), (4, t4), (6, t6), (8, t8), (11, t11), (12, t12), (13, t13), (14, t14)]) H (k51_5 c m2 n2)
def b51_3 (c : Cx) (r2 : F7) (t2 t3 t4 t6 t8 t11 t12 t13 t14 : V) (H : List Blk) : X := (aLoad true 8 t8).go H fun x1 H => (fun (t2 t3 t4 t6 t8 t11 t12 t13 t14 x1 : V) (H : L) (c : Cx) (r2 : F7) => p (aIx 1 t11 t12) fun x2 => (aLoad false 1 x2).go H fun x3 H => p (aCall c.pc 105 [x1, x3, t14]) fun x4 => (aStore 8 t8 x4).go H fun _ H => (aLoad true 7 t3).go H fun x5 H => (aLoad true 4 t4).go H fun x6 H => p (aCall c.pc 51 [x5, x6, t13]) fun x7 => (aStore 4 t4 x7).go H fun _ H => p (aBin .add t12 (ci 1)) fun x8 => r2 t2 t3 t4 t6 t8 t11 x8 H) t2 t3 t4 t6 t8 t11 t12 t13 t14 x1 H c r2
def j51_3 (c : Cx) (r2 : F7) : F9 := b51_3 c r2
theorem o51_3 (c : Cx) (m2 n2 : Nat) : d51_3 c m2 n2 = j51_3 c (d51_2 c m2 n2) := by
  unfold j51_3
  funext t2 t3 t4 t6 t8 t11 t12 t13 t14 H
  refine Eq.trans (stepK_jn c.pc c.ic c.n _ H _ 475368975085586025561263733084 c51_3) ?_
  kernel_rfl
def b51_2 (c : Cx) (j3 : F9) (n2 : Nat) (t2 t3 t4 t6 t8 t11 t12 : V) (H : List Blk) : X := bnd (trimF true n2 [t2, t3, t4, t6, t8, t11, t12] H) fun H => (aLen 1 t11).go H fun x1 H => p (aBin .lss t12 x1) fun x2 => condK x2 ((fun (t2 t3 t4 t6 t8 t11 t12 x1 x2 : V) (H : L) (c : Cx) (j3 : F9) => (aLoad true 7 t3).go H fun x3 H => p (aIx 1 t11 t12) fun x4 => (aLoad false 1 x4).go H fun x5 H => p (aCall c.pc 47 [x3, t2, x5]) fun x6 => newK 1 H fun q H => drawnK c.pc c.ic l51_0 q (cn 0 97 [(2, t2), (3, t3), (4, t4), (6, t6), (8, t8), (11, t11), (12, t12), (13, x6), (62, t12), (63, t11), (64, x1), (65, x2), (68, x3), (69, t2), (70, t11), (71, t12), (72, x4), (73, x5), (74, x6)]) H fun ts6 H => j3 (getT ts6 2) (getT ts6 3) (getT ts6 4) (getT ts6 6) (getT ts6 8) (getT ts6 11) (getT ts6 12) (getT ts6 13) (getT ts6 14) H) t2 t3 t4 t6 t8 t11 t12 x1 x2 H c j3) ((fun (t4 t6 t8 : V) (H : L) (c : Cx) => (aLoad true 4 t4).go H fun x8 H => (aLoad true 8 t8).go H fun x9 H => p (aCall c.pc 103 [x8, x9]) fun x10 => (aStore 4 t6 x10).go H fun _ H => bnd (loadV true 4 t6 H) fun x11 => some (x11, H)) t4 t6 t8 H c)
def j51_2 (c : Cx) : Nat → Nat → F7 := recN (fun _ _ _ _ _ _ _ _ _ => none) fun ih n2 => b51_2 c (j51_3 c (ih n2)) n2
theorem o51_2 (c : Cx) : d51_2 c = j51_2 c := by
  unfold j51_2
  refine recN_ok (by kernel_rfl) fun m => funext fun n2 => ?_
  simp only [← o51_3]
  funext t2 t3 t4 t6 t8 t11 t12 H
  refine Eq.trans (jnK_eq 316912650057057350374175807836 _ _ H _) ?_
  kernel_rfl
def b51_1 (c : Cx) (j2 : Nat → Nat → F7) (t2 t3 t4 t6 t7 t8 : V) (H : List Blk) : X := newK 1 H fun q H => (aLoad true 4 t4).go H fun x1 H => p (aCall c.pc 16 [x1, t7]) fun x2 => (fun (t2 t3 t4 t6 t7 t8 x2 : V) (q : Nat) (H : L) (c : Cx) (j2 : Nat → Nat → F7) => p (aExt 0 x2) fun x3 => p (aExt 1 x2) fun x4 => (aAlloc (q + 0) z1).go H fun x5 H => (aStore 8 x5 x3).go H fun _ H => guardK x4 true (fun k => (aFld 1 t8).go H k) H fun x6 H => guardK x4 true (fun k => (aLoad false 1 x6).go H k) H fun x7 H => guardK x4 true (fun k => (aBin .neq x7 (ci 2)).go H k) H fun x8 H => p (aPick x4 x8 cf) fun x9 => condK x9 ((fun (t4 t6 x5 : V) (H : L) (c : Cx) => p (aFld 3 x5) fun x10 => (fun (t4 t6 x5 x10 : V) (H : L) (c : Cx) => (aLoad false 1 x10).go H fun x11 H => p (aBin .add x11 (ci 1)) fun x12 => p (aFld 3 x5) fun x13 => (aStore 1 x13 x12).go H fun _ H => (aLoad true 4 t4).go H fun x14 H => (aLoad true 8 x5).go H fun x15 H => p (aCall c.pc 103 [x14, x15]) fun x16 => (aStore 4 t6 x16).go H fun _ H => bnd (loadV true 4 t6 H) fun x17 => some (x17, H)) t4 t6 x5 x10 H c) t4 t6 x5 H c) ((fun (t2 t3 t4 t6 t7 t8 : V) (H : L) (c : Cx) (j2 : Nat → Nat → F7) => p (aFld 0 t8) fun x18 => (aStore 1 x18 t7).go H fun _ H => (fun (t2 t3 t4 t6 t8 : V) (H : L) (c : Cx) (j2 : Nat → Nat → F7) => p (aFld 3 t8) fun x19 => (aStore 1 x19 (ci 1)).go H fun _ H => p (aFld 7 t8) fun x20 => (aStore 1 x20 .nilS).go H fun _ H => (aLoad true 7 t3).go H fun x21 H => (fun (t2 t3 t4 t6 t8 x21 : V) (H : L) (c : Cx) (j2 : Nat → Nat → F7) => p (aIx 2 t2 (ci 0)) fun x22 => (aLoad true 2 x22).go H fun x23 H => p (aCall c.pc 46 [x21, x23]) fun x24 => p (aUn .not x24) fun x25 => condK x25 ((fun (t4 t6 t8 : V) (H : L) (c : Cx) => (aLoad true 4 t4).go H fun x26 H => (aLoad true 8 t8).go H fun x27 H => p (aCall c.pc 103 [x26, x27]) fun x28 => (aStore 4 t6 x28).go H fun _ H => bnd (loadV true 4 t6 H) fun x29 => some (x29, H)) t4 t6 t8 H c) ((fun (t2 t3 t4 t6 t8 : V) (H : L) (c : Cx) (j2 : Nat → Nat → F7) => (aLoad true 7 t3).go H fun x30 H => p (aCall c.pc 104 [x30, t2]) fun x31 => (aLoad true 4 t4).go H fun x32 H => (aLoad true 8 t8).go H fun x33 H => p (aCall c.pc 103 [x32, x33]) fun x34 => (aStore 4 t4 x34).go H fun _ H => j2 c.n H.length t2 t3 t4 t6 t8 x31 (ci 0) H) t2 t3 t4 t6 t8 H c j2)) t2 t3 t4 t6 t8 x21 H c j2) t2 t3 t4 t6 t8 H c j2) t2 t3 t4 t6 t7 t8 H c j2)) t2 t3 t4 t6 t7 t8 x2 q H c j2
def j51_1 (c : Cx) : F6 := b51_1 c (j51_2 c)
theorem o51_1 (c : Cx) : d51_1 c = j51_1 c := by
  unfold j51_1; rw [← o51_2]
  funext t2 t3 t4 t6 t7 t8 H
  refine Eq.trans (stepK_jn c.pc c.ic c.n _ H _ 158456325028528675187087901148 c51_1) ?_
  kernel_rfl
def b51_0 (c : Cx) (j1 : F6) (t0 t1 t2 : V) (H : List Blk) : X := newK 3 H fun q H => (aBox (q + 0) t0).go H fun x1 H => (aBox (q + 1) t1).go H fun x2 H => (aAlloc (q + 2) z0).go H fun x3 H => newK 1 H fun q H => drawnK c.pc c.ic l51_1 q (cn 0 97 [(0, t0), (1, t1), (2, t2), (3, x1), (4, x2), (6, x3)]) H fun ts3 H => j1 (getT ts3 2) (getT ts3 3) (getT ts3 4) (getT ts3 6) (getT ts3 7) (getT ts3 8) H
def s51 (c : Cx) (args : List V) (H : List Blk) : X := argsK 3 args (b51_0 c (j51_1 c) (getT args 0) (getT args 1) (getT args 2) H)
theorem e51 (pc ic n args H) : runK pc ic n c51 args H = s51 ⟨pc, ic, n⟩ args H := by
  unfold s51; rw [← o51_1]
  kernel_rfl
def L51 : Leaf := ⟨c51, fun pc ic n => s51 ⟨pc, ic, n⟩, e51⟩
theorem kk51 : chkFn Go.Proofs.Tryz.prog ET 51 c51 = true := by kernel_rfl

def c53_2 : C := (.seq (.reg 0 none [o 19 (.load true 4) [.t 2] 0, ⟨none, .store 4, [.t 4, .t 19], none, 0, 1⟩]) .ret)
def l53_0 : List O := [o 9 (.fld 1) [.t 2] 0, ⟨some 10, .load false 1, [.t 9], none, 1, 1⟩, m 11 (.t 5) 2, o 13 (.fld 2) [.t 2] 4, ⟨some 14, .load false 1, [.t 13], none, 8, 5⟩, m 15 (.t 5) 6, ⟨some 12, .icall 110, [.t 10, .t 11], none, 7, 3⟩, ⟨some 17, .fld 1, [.t 2], none, 95, 8⟩, ⟨some 16, .icall 110, [.t 14, .t 15], none, 127, 7⟩, ⟨none, .store 1, [.t 17, .t 12], none, 511, 9⟩, ⟨some 18, .fld 2, [.t 2], none, 1023, 10⟩, ⟨none, .store 1, [.t 18, .t 16], none, 2047, 11⟩]
def c53_1 : C := (.seq (.reg 3 none [o 2 (.box 0) [.t 0] 0, o 3 (.box 1) [.t 1] 1, o 4 (.alloc 2 z10) [] 2]) (.seq (.reg 0 none [o 6 (.load true 4) [.t 2] 0, o 7 (.icall 108) [.t 6] 1, ⟨none, .store 4, [.t 2, .t 7], none, 0, 2⟩]) (.seq (.reg 0 none [o 8 (.mkF 109) [.t 3] 0, m 5 (.t 8) 1]) (.seq (.reg 0 (some ⟨false, [0, 1, 2, 3, 4, 5, 6, 7, 8, 9, 10, 11], 20⟩) l53_0) (.jn 2097172 c53_2)))))
def c53 : Fn := { fid := 53, np := 2, ntmps := 20, body := (.jn 1048579 c53_1), res := [.cell 4 true 4] }
def d53_1 (c : Cx) (t0 t1 : V) (H : List Blk) : X := stepK c.pc c.ic c.n (.jn 1048579 c53_1) (cn 0 20 [(0, t0), (1, t1)]) H (kTop c53.res)
def d53_2 (c : Cx) (t2 t4 : V) (H : List Blk) : X := stepK c.pc c.ic c.n (.jn 2097172 c53_2) (cn 0 20 [(2, t2), (4, t4)]) H (kTop c53.res)
def b53_2 (c : Cx) (t2 t4 : V) (H : List Blk) : X := (aLoad true 4 t2).go H fun x1 H => (aStore 4 t4 x1).go H fun _ H => bnd (loadV true 4 t4 H) fun x2 => some (x2, H)
def j53_2 (c : Cx) : F2 := b53_2 c
theorem o53_2 (c : Cx) : d53_2 c = j53_2 c := by
  unfold j53_2
  funext t2 t4 H
  refine Eq.trans (stepK_jn c.pc c.ic c.n _ H _ 2097172 c53_2) ?_
  kernel_rfl
def b53_1 (c : Cx) (j2 : F2) (t0 t1 : V) (H : List Blk) : X := newK 3 H fun q H => (aBox (q + 0) t0).go H fun x1 H => (aBox (q + 1) t1).go H fun x2 H => (aAlloc (q + 2) z10).go H fun x3 H => (aLoad true 4 x1).go H fun x4 H => icK c 108 [x4] H fun x5 H => (aStore 4 x1 x5).go H fun _ H => p (aMkF 109 [x2]) fun x6 => drawnK c.pc c.ic l53_0 0 (cn 0 20 [(0, t0), (1, t1), (2, x1), (3, x2), (4, x3), (5, x6), (6, x4), (7, x5), (8, x6)]) H fun ts6 H => j2 (getT ts6 2) (getT ts6 4) H
def j53_1 (c : Cx) : F2 := b53_1 c (j53_2 c)
theorem o53_1 (c : Cx) : d53_1 c = j53_1 c := by
  unfold j53_1; rw [← o53_2]
  funext t0 t1 H
  refine Eq.trans (stepK_jn c.pc c.ic c.n _ H _ 1048579 c53_1) ?_
  kernel_rfl
def b53_0 (c : Cx) (j1 : F2) (t0 t1 : V) (H : List Blk) : X := j1 t0 t1 H
def s53 (c : Cx) (args : List V) (H : List Blk) : X := argsK 2 args (b53_0 c (j53_1 c) (getT args 0) (getT args 1) H)
theorem e53 (pc ic n args H) : runK pc ic n c53 args H = s53 ⟨pc, ic, n⟩ args H := by
  unfold s53; rw [← o53_1]
  kernel_rfl
def L53 : Leaf := ⟨c53, fun pc ic n => s53 ⟨pc, ic, n⟩, e53⟩
theorem kk53 : chkFn Go.Proofs.Tryz.prog ET 53 c53 = true := by kernel_rfl

def c57_1 : C := (.seq (.reg 1 none [o 2 (.box 0) [.t 0] 0, m 4 (.c cf) 1]) (.seq (.reg 0 none [m 5 (.t 1) 0, o 6 (.bin .geq) [.t 5, .c (ci 0)] 1, m 7 (.t 6) 2, ⟨some 8, .mov, [.t 1], some (7, true), 0, 3⟩, ⟨some 9, .fld 0, [.t 2], some (7, true), 0, 4⟩, ⟨some 10, .load false 1, [.t 9], some (7, true), 0, 5⟩, ⟨some 11, .len 1, [.t 10], some (7, true), 0, 6⟩, ⟨some 12, .bin .lss, [.t 8, .t 11], some (7, true), 0, 7⟩, o 13 .pick [.t 7, .t 12, .c cf] 8, m 14 (.t 13) 9, ⟨some 15, .fld 0, [.t 2], some (14, true), 0, 10⟩, ⟨some 16, .load false 1, [.t 15], some (14, true), 0, 11⟩, ⟨some 17, .mov, [.t 1], some (14, true), 0, 12⟩, ⟨some 18, .ix 1, [.t 16, .t 17], some (14, true), 0, 13⟩, ⟨some 19, .load false 1, [.t 18], some (14, true), 0, 14⟩, ⟨some 20, .bin .eql, [.t 19, .c (ci 1)], some (14, true), 0, 15⟩, o 21 .pick [.t 14, .t 20, .c cf] 16, m 4 (.t 21) 17]) .ret))
def c57 : Fn := { fid := 57, np := 2, ntmps := 22, body := (.jn 4194307 c57_1), res := [.tmp 4] }
def d57_1 (c : Cx) (t0 t1 : V) (H : List Blk) : X := stepK c.pc c.ic c.n (.jn 4194307 c57_1) (cn 0 22 [(0, t0), (1, t1)]) H (kTop c57.res)
def b57_1 (c : Cx) (t0 t1 : V) (H : List Blk) : X := newK 1 H fun q H => (aBox (q + 0) t0).go H fun x1 H => p (aBin .geq t1 (ci 0)) fun x2 => guardK x2 true (fun k => (aMov t1).go H k) H fun x3 H => (fun (t1 x1 x2 x3 : V) (H : L) => guardK x2 true (fun k => (aFld 0 x1).go H k) H fun x4 H => guardK x2 true (fun k => (aLoad false 1 x4).go H k) H fun x5 H => guardK x2 true (fun k => (aLen 1 x5).go H k) H fun x6 H => guardK x2 true (fun k => (aBin .lss x3 x6).go H k) H fun x7 H => (fun (t1 x1 x2 x7 : V) (H : L) => p (aPick x2 x7 cf) fun x8 => guardK x8 true (fun k => (aFld 0 x1).go H k) H fun x9 H => guardK x8 true (fun k => (aLoad false 1 x9).go H k) H fun x10 H => guardK x8 true (fun k => (aMov t1).go H k) H fun x11 H => (fun (x8 x10 x11 : V) (H : L) => guardK x8 true (fun k => (aIx 1 x10 x11).go H k) H fun x12 H => guardK x8 true (fun k => (aLoad false 1 x12).go H k) H fun x13 H => guardK x8 true (fun k => (aBin .eql x13 (ci 1)).go H k) H fun x14 H => p (aPick x8 x14 cf) fun x15 => some (x15, H)) x8 x10 x11 H) t1 x1 x2 x7 H) t1 x1 x2 x3 H
def j57_1 (c : Cx) : F2 := b57_1 c
theorem o57_1 (c : Cx) : d57_1 c = j57_1 c := by
  unfold j57_1
  funext t0 t1 H
  refine Eq.trans (stepK_jn c.pc c.ic c.n _ H _ 4194307 c57_1) ?_
  kernel_rfl
def b57_0 (c : Cx) (j1 : F2) (t0 t1 : V) (H : List Blk) : X := j1 t0 t1 H
def s57 (c : Cx) (args : List V) (H : List Blk) : X := argsK 2 args (b57_0 c (j57_1 c) (getT args 0) (getT args 1) H)
theorem e57 (pc ic n args H) : runK pc ic n c57 args H = s57 ⟨pc, ic, n⟩ args H := by
  unfold s57; rw [← o57_1]
  kernel_rfl
def L57 : Leaf := ⟨c57, fun pc ic n => s57 ⟨pc, ic, n⟩, e57⟩
theorem kk57 : chkFn Go.Proofs.Tryz.prog ET 57 c57 = true := by kernel_rfl

def c61 : Fn := { fid := 61, np := 1, ntmps := 11, body := (.seq (.reg 1 none [o 1 (.box 0) [.t 0] 0, m 2 (.c cf) 1]) (.seq (.reg 0 none [o 3 (.fld 0) [.t 1] 0, o 4 (.load false 1) [.t 3] 1, o 5 (.bin .eql) [.t 4, .c (ci 3)] 2, m 6 (.t 5) 3, ⟨some 7, .fld 0, [.t 1], some (6, false), 0, 4⟩, ⟨some 8, .load false 1, [.t 7], some (6, false), 0, 5⟩, ⟨some 9, .bin .eql, [.t 8, .c (ci 6)], some (6, false), 0, 6⟩, o 10 .pick [.t 6, .c ct, .t 9] 7, m 2 (.t 10) 8]) .ret)), res := [.tmp 2] }
def b61_0 (c : Cx) (t0 : V) (H : List Blk) : X := newK 1 H fun q H => (aBox (q + 0) t0).go H fun x1 H => p (aFld 0 x1) fun x2 => (aLoad false 1 x2).go H fun x3 H => p (aBin .eql x3 (ci 3)) fun x4 => (fun (x1 x4 : V) (H : L) => guardK x4 false (fun k => (aFld 0 x1).go H k) H fun x5 H => guardK x4 false (fun k => (aLoad false 1 x5).go H k) H fun x6 H => guardK x4 false (fun k => (aBin .eql x6 (ci 6)).go H k) H fun x7 H => p (aPick x4 ct x7) fun x8 => some (x8, H)) x1 x4 H
def s61 (c : Cx) (args : List V) (H : List Blk) : X := argsK 1 args (b61_0 c (getT args 0) H)
theorem e61 (pc ic n args H) : runK pc ic n c61 args H = s61 ⟨pc, ic, n⟩ args H := by
  unfold s61
  kernel_rfl
def L61 : Leaf := ⟨c61, fun pc ic n => s61 ⟨pc, ic, n⟩, e61⟩
theorem kk61 : chkFn Go.Proofs.Tryz.prog ET 61 c61 = true := by kernel_rfl

end
end Go.Vm.T
