/- Functions of the program: the machine's code, plain Lean, their equality; that the code is the program's. Printed by a program of mine. -/
import Derived.Test.YtjffpbodflkehaaGreatDoorDZ
import Derived.KernelRfl
set_option maxRecDepth 100000
set_option linter.unusedVariables false
namespace Go.Vm.T
open Go.Vm.I
noncomputable section
def c154_3 : C := (.seq (.seq (.reg 0 none [m 15 (.t 6) 0, o 16 (.fld 3) [.t 2] 1, o 17 (.load false 1) [.t 16] 2, m 18 (.t 5) 3, o 19 (.ix 8) [.t 17, .t 18] 4, o 20 (.fld 7) [.t 19] 5, o 21 (.load false 1) [.t 20] 6, o 22 (.len 1) [.t 21] 7, o 23 (.bin .lss) [.t 15, .t 22] 8]) (.cond (.t 23) .skip (.exit 2))) (.seq (.blk 3 (.seq (.reg 0 none [o 26 (.fld 3) [.t 2] 0, o 27 (.load false 1) [.t 26] 1, m 28 (.t 5) 2, o 29 (.ix 8) [.t 27, .t 28] 3, o 30 (.fld 7) [.t 29] 4, o 31 (.load false 1) [.t 30] 5, m 32 (.t 6) 6, o 33 (.ix 2) [.t 31, .t 32] 7, o 34 (.fld 0) [.t 33] 8, o 35 (.load false 1) [.t 34] 9, m 7 (.t 35) 10]) (.seq (.reg 0 none [m 36 (.t 1) 0, m 37 (.t 36) 1, ⟨some 38, .mov, [.t 7], some (37, true), 0, 2⟩, ⟨some 39, .call 183, [.t 38], some (37, true), 0, 3⟩, o 40 .pick [.t 37, .t 39, .c cf] 4, m 41 (.t 40) 5, ⟨some 42, .mov, [.t 7], some (41, false), 0, 6⟩, ⟨some 43, .call 183, [.t 42], some (41, false), 0, 7⟩, ⟨some 44, .un .not, [.t 43], some (41, false), 0, 8⟩, ⟨some 45, .mov, [.t 44], some (41, false), 0, 9⟩, ⟨some 46, .mov, [.t 7], some (45, true), 0, 10⟩, ⟨some 47, .len 0, [.t 46], some (45, true), 0, 11⟩, ⟨some 48, .bin .gtr, [.t 47, .c (ci 20)], some (45, true), 0, 12⟩, ⟨some 49, .pick, [.t 45, .t 48, .c cf], some (41, false), 0, 13⟩, o 50 .pick [.t 41, .c ct, .t 49] 14]) (.cond (.t 50) (.seq (.reg 0 none [m 4 (.c cf) 0]) .ret) .skip)))) (.reg 0 none [m 24 (.t 6) 0, o 25 (.bin .add) [.t 24, .c (ci 1)] 1, m 6 (.t 25) 2])))
def c154_s1 : C := (.reg 0 none [m 13 (.t 5) 0, o 14 (.bin .add) [.t 13, .c (ci 1)] 1, m 5 (.t 14) 2])
def c154_2 : C := (.seq (.seq (.reg 0 none [m 8 (.t 5) 0, o 9 (.fld 3) [.t 2] 1, o 10 (.load false 1) [.t 9] 2, o 11 (.len 1) [.t 10] 3, o 12 (.bin .lss) [.t 8, .t 11] 4]) (.cond (.t 12) .skip (.exit 0))) (.seq (.blk 1 (.seq (.reg 0 none [m 6 (.c (ci 0)) 0]) (.blk 2 (.loop 6755399441055846 false c154_3)))) c154_s1))
def c154_s2 : C := (.seq (.reg 0 none [m 4 (.c ct) 0]) .ret)
def c154_1 : C := (.seq (.reg 1 none [o 2 (.box 0) [.t 0] 0, m 4 (.c cf) 1]) (.seq (.seq (.reg 0 none [m 5 (.c (ci 0)) 0]) (.blk 0 (.loop 4503599627370534 false c154_2))) c154_s2))
def c154 : Fn := { fid := 154, np := 2, ntmps := 51, body := (.jn 2251799813685251 c154_1), res := [.tmp 4] }
def d154_1 (c : Cx) (t0 t1 : V) (H : List Blk) : X := stepK c.pc c.ic c.n (.jn 2251799813685251 c154_1) (cn 0 51 [(0, t0), (1, t1)]) H (kTop c154.res)
def k154_1 (c : Cx) : KT := thenK (stepK c.pc c.ic c.n c154_s2) (kTop c154.res)
def k154_2 (c : Cx) : KT := blkK 0 (k154_1 c)
def d154_2 (c : Cx) (m n2 : Nat) (t1 t2 t5 : V) (H : List Blk) : X := jnK (loopsK (stepK c.pc c.ic c.n c154_2) 4503599627370534 false n2 m) (cn 0 51 [(1, t1), (2, t2), (5, t5)]) H (k154_2 c) 4503599627370534
def k154_3 (c : Cx) (m2 n2 : Nat) : KT := thenK (fun ts H k => jnK (loopsK (stepK c.pc c.ic c.n c154_2) 4503599627370534 false n2 m2) (maskT 4503599627370534 0 ts) H k 4503599627370534) (k154_2 c)
def k154_4 (c : Cx) (m2 n2 : Nat) : KT := thenK (stepK c.pc c.ic c.n c154_s1) (k154_3 c m2 n2)
def k154_5 (c : Cx) (m2 n2 : Nat) : KT := blkK 1 (k154_4 c m2 n2)
def k154_6 (c : Cx) (m2 n2 : Nat) : KT := blkK 2 (k154_5 c m2 n2)
def d154_3 (c : Cx) (m2 n2 : Nat) (m n3 : Nat) (t1 t2 t5 t6 : V) (H : List Blk) : X := jnK (loopsK (stepK c.pc c.ic c.n c154_3) 6755399441055846 false n3 m) (cn 0 51 [(1, t1), (2, t2), (5, t5), (6, t6)]) H (k154_6 c m2 n2) 6755399441055846
def b154_3 (c : Cx) (r2 : F3) (r3 : F4) (n3 : Nat) (t1 t2 t5 t6 : V) (H : List Blk) : X := p (aFld 3 t2) fun x1 => (aLoad false 1 x1).go H fun x2 H => p (aIx 8 x2 t5) fun x3 => (fun (t1 t2 t5 t6 x3 : V) (H : L) (c : Cx) (r2 : F3) (r3 : F4) => p (aFld 7 x3) fun x4 => (aLoad false 1 x4).go H fun x5 H => (aLen 1 x5).go H fun x6 H => p (aBin .lss t6 x6) fun x7 => condK x7 ((fun (t1 t2 t5 t6 : V) (H : L) (c : Cx) (r3 : F4) => p (aFld 3 t2) fun x8 => (aLoad false 1 x8).go H fun x9 H => p (aIx 8 x9 t5) fun x10 => p (aFld 7 x10) fun x11 => (fun (t1 t2 t5 t6 x11 : V) (H : L) (c : Cx) (r3 : F4) => (aLoad false 1 x11).go H fun x12 H => p (aIx 2 x12 t6) fun x13 => p (aFld 0 x13) fun x14 => (aLoad false 1 x14).go H fun x15 H => guardK t1 true (fun k => (aMov x15).go H k) H fun x16 H => guardK t1 true (fun k => (aCall c.pc 183 [x16]).go H k) H fun x17 H => p (aPick t1 x17 cf) fun x18 => guardK x18 false (fun k => (aMov x15).go H k) H fun x19 H => (fun (t1 t2 t5 t6 x15 x18 x19 : V) (H : L) (c : Cx) (r3 : F4) => guardK x18 false (fun k => (aCall c.pc 183 [x19]).go H k) H fun x20 H => guardK x18 false (fun k => (aUn .not x20).go H k) H fun x21 H => guardK x18 false (fun k => (aMov x21).go H k) H fun x22 H => guardK x22 true (fun k => (aMov x15).go H k) H fun x23 H => (fun (t1 t2 t5 t6 x18 x22 x23 : V) (H : L) (r3 : F4) => guardK x22 true (fun k => (aLen 0 x23).go H k) H fun x24 H => guardK x22 true (fun k => (aBin .gtr x24 (ci 20)).go H k) H fun x25 H => guardK x18 false (fun k => (aPick x22 x25 cf).go H k) H fun x26 H => p (aPick x18 ct x26) fun x27 => condK x27 (some (cf, H)) (p (aBin .add t6 (ci 1)) fun x28 => r3 t1 t2 t5 x28 H)) t1 t2 t5 t6 x18 x22 x23 H r3) t1 t2 t5 t6 x15 x18 x19 H c r3) t1 t2 t5 t6 x11 H c r3) t1 t2 t5 t6 H c r3) (p (aBin .add t5 (ci 1)) fun x29 => r2 t1 t2 x29 H)) t1 t2 t5 t6 x3 H c r2 r3
def j154_3 (c : Cx) (r2 : F3) : Nat → Nat → F4 := recN (fun _ _ _ _ _ _ => none) fun ih n3 => b154_3 c r2 (ih n3) n3
theorem o154_3 (c : Cx) (m2 n2 : Nat) : d154_3 c m2 n2 = j154_3 c (d154_2 c m2 n2) := by
  unfold j154_3
  refine recN_ok (by kernel_rfl) fun m => funext fun n3 => ?_
  funext t1 t2 t5 t6 H
  refine Eq.trans (jnK_eq 6755399441055846 _ _ H _) ?_
  kernel_rfl
def b154_2 (c : Cx) (j3 : Nat → Nat → F4) (n2 : Nat) (t1 t2 t5 : V) (H : List Blk) : X := p (aFld 3 t2) fun x1 => (aLoad false 1 x1).go H fun x2 H => (aLen 1 x2).go H fun x3 H => p (aBin .lss t5 x3) fun x4 => condK x4 (j3 c.n H.length t1 t2 t5 (ci 0) H) (some (ct, H))
def j154_2 (c : Cx) : Nat → Nat → F3 := recN (fun _ _ _ _ _ => none) fun ih n2 => b154_2 c (j154_3 c (ih n2)) n2
theorem o154_2 (c : Cx) : d154_2 c = j154_2 c := by
  unfold j154_2
  refine recN_ok (by kernel_rfl) fun m => funext fun n2 => ?_
  simp only [← o154_3]
  funext t1 t2 t5 H
  refine Eq.trans (jnK_eq 4503599627370534 _ _ H _) ?_
  kernel_rfl
def b154_1 (c : Cx) (j2 : Nat → Nat → F3) (t0 t1 : V) (H : List Blk) : X := newK 1 H fun q H => (aBox (q + 0) t0).go H fun x1 H => j2 c.n H.length t1 x1 (ci 0) H
def j154_1 (c : Cx) : F2 := b154_1 c (j154_2 c)
theorem o154_1 (c : Cx) : d154_1 c = j154_1 c := by
  unfold j154_1; rw [← o154_2]
  funext t0 t1 H
  refine Eq.trans (stepK_jn c.pc c.ic c.n _ H _ 2251799813685251 c154_1) ?_
  kernel_rfl
def b154_0 (c : Cx) (j1 : F2) (t0 t1 : V) (H : List Blk) : X := j1 t0 t1 H
def s154 (c : Cx) (args : List V) (H : List Blk) : X := argsK 2 args (b154_0 c (j154_1 c) (getT args 0) (getT args 1) H)
theorem e154 (pc ic n args H) : runK pc ic n c154 args H = s154 ⟨pc, ic, n⟩ args H := by
  unfold s154; rw [← o154_1]
  kernel_rfl
def L154 : Leaf := ⟨c154, fun pc ic n => s154 ⟨pc, ic, n⟩, e154⟩
theorem kk154 : chkFn Go.Proofs.Tryz.prog ET 154 c154 = true := by kernel_rfl

def c157_1 : C := (.seq (.reg 2 none [o 1 (.box 0) [.t 0] 0, o 2 (.alloc 1 z10) [] 1]) (.seq (.seq (.reg 0 none [o 3 (.fld 2) [.t 1] 0, o 4 (.load false 1) [.t 3] 1, o 5 (.len 1) [.t 4] 2, o 6 (.bin .eql) [.t 5, .c (ci 0)] 3]) (.cond (.t 6) (.seq (.reg 0 none [o 7 (.build z10 [(0, 1)]) [.c (ci 1)] 0, ⟨none, .store 4, [.t 2, .t 7], none, 0, 1⟩]) .ret) .skip)) (.seq (.reg 0 (some ⟨true, [], 13⟩) [o 8 (.load true 7) [.t 1] 0, o 9 (.build z10 [(0, 1)]) [.c (ci 1)] 1, o 10 (.load true 7) [.t 1] 2, ⟨some 11, .call 45, [.t 10], none, 4, 3⟩, ⟨some 12, .call 246, [.t 8, .t 9, .t 11], none, 15, 4⟩, ⟨none, .store 4, [.t 2, .t 12], none, 31, 5⟩]) .ret)))
def c157 : Fn := { fid := 157, np := 1, ntmps := 13, body := (.jn 8193 c157_1), res := [.cell 2 true 4] }
def L157 : Leaf := coldL c157
theorem kk157 : chkFn Go.Proofs.Tryz.prog ET 157 c157 = true := by kernel_rfl

def c158_2 : C := (.seq (.seq (.reg 0 none [m 5 (.t 3) 0, o 6 (.fld 1) [.t 1] 1, o 7 (.load false 1) [.t 6] 2, o 8 (.len 1) [.t 7] 3, o 9 (.bin .lss) [.t 5, .t 8] 4]) (.cond (.t 9) .skip (.exit 0))) (.seq (.blk 1 (.seq (.reg 0 (some ⟨true, [], 94⟩) [o 12 (.load true 4) [.t 1] 0, o 13 (.fld 1) [.t 1] 1, ⟨some 14, .load false 1, [.t 13], none, 2, 2⟩, m 15 (.t 3) 3, ⟨some 16, .ix 3, [.t 14, .t 15], none, 14, 4⟩, ⟨some 17, .load true 3, [.t 16], none, 30, 5⟩, ⟨some 18, .call 247, [.t 12, .t 17], none, 63, 6⟩, ⟨some 19, .un .not, [.t 18], none, 127, 7⟩, ⟨some 20, .mov, [.t 19], none, 255, 8⟩, ⟨some 21, .mov, [.t 3], some (20, false), 511, 9⟩, ⟨some 22, .bin .gtr, [.t 21, .c (ci 0)], some (20, false), 1023, 10⟩, ⟨some 23, .mov, [.t 22], some (20, false), 2047, 11⟩, ⟨some 24, .fld 1, [.t 1], some (23, true), 4095, 12⟩, ⟨some 25, .load false 1, [.t 24], some (23, true), 8191, 13⟩, ⟨some 26, .mov, [.t 3], some (23, true), 4095, 14⟩, ⟨some 27, .bin .sub, [.t 26, .c (ci 1)], some (23, true), 20479, 15⟩, ⟨some 28, .ix 3, [.t 25, .t 27], some (23, true), 65535, 16⟩, ⟨some 29, .fld 0, [.t 28], some (23, true), 131071, 17⟩, ⟨some 30, .load true 2, [.t 29], some (23, true), 262143, 18⟩, ⟨some 31, .fld 1, [.t 1], some (23, true), 4095, 19⟩, ⟨some 32, .load false 1, [.t 31], some (23, true), 528383, 20⟩, ⟨some 33, .mov, [.t 3], some (23, true), 4095, 21⟩, ⟨some 34, .ix 3, [.t 32, .t 33], some (23, true), 3674111, 22⟩, ⟨some 35, .fld 0, [.t 34], some (23, true), 7868415, 23⟩, ⟨some 36, .load true 2, [.t 35], some (23, true), 16257023, 24⟩, ⟨some 37, .call 248, [.t 30, .t 36], some (23, true), 33554431, 25⟩, ⟨some 38, .un .not, [.t 37], some (23, true), 67108863, 26⟩, ⟨some 39, .pick, [.t 23, .t 38, .c cf], some (20, false), 134217727, 27⟩, ⟨some 40, .pick, [.t 20, .c ct, .t 39], none, 268435455, 28⟩]) (.cond (.t 40) (.seq (.reg 0 none [m 2 (.c cf) 0]) .ret) .skip))) (.reg 0 none [m 10 (.t 3) 0, o 11 (.bin .add) [.t 10, .c (ci 1)] 1, m 3 (.t 11) 2])))
def c158_3 : C := (.seq (.seq (.reg 0 none [m 41 (.t 4) 0, o 42 (.fld 2) [.t 1] 1, o 43 (.load false 1) [.t 42] 2, o 44 (.len 1) [.t 43] 3, o 45 (.bin .lss) [.t 41, .t 44] 4]) (.cond (.t 45) .skip (.exit 2))) (.seq (.blk 3 (.seq (.reg 0 (some ⟨true, [], 94⟩) [o 48 (.load true 4) [.t 1] 0, o 49 (.fld 2) [.t 1] 1, ⟨some 50, .load false 1, [.t 49], none, 2, 2⟩, m 51 (.t 4) 3, ⟨some 52, .ix 3, [.t 50, .t 51], none, 14, 4⟩, ⟨some 53, .load true 3, [.t 52], none, 30, 5⟩, ⟨some 54, .call 247, [.t 48, .t 53], none, 63, 6⟩, ⟨some 55, .un .not, [.t 54], none, 127, 7⟩, ⟨some 56, .mov, [.t 55], none, 255, 8⟩, ⟨some 57, .mov, [.t 4], some (56, false), 511, 9⟩, ⟨some 58, .bin .gtr, [.t 57, .c (ci 0)], some (56, false), 1023, 10⟩, ⟨some 59, .mov, [.t 58], some (56, false), 2047, 11⟩, ⟨some 60, .fld 2, [.t 1], some (59, true), 4095, 12⟩, ⟨some 61, .load false 1, [.t 60], some (59, true), 8191, 13⟩, ⟨some 62, .mov, [.t 4], some (59, true), 4095, 14⟩, ⟨some 63, .bin .sub, [.t 62, .c (ci 1)], some (59, true), 20479, 15⟩, ⟨some 64, .ix 3, [.t 61, .t 63], some (59, true), 65535, 16⟩, ⟨some 65, .fld 2, [.t 64], some (59, true), 131071, 17⟩, ⟨some 66, .load false 1, [.t 65], some (59, true), 262143, 18⟩, ⟨some 67, .fld 2, [.t 1], some (59, true), 4095, 19⟩, ⟨some 68, .load false 1, [.t 67], some (59, true), 528383, 20⟩, ⟨some 69, .mov, [.t 4], some (59, true), 4095, 21⟩, ⟨some 70, .ix 3, [.t 68, .t 69], some (59, true), 3674111, 22⟩, ⟨some 71, .fld 2, [.t 70], some (59, true), 7868415, 23⟩, ⟨some 72, .load false 1, [.t 71], some (59, true), 16257023, 24⟩, ⟨some 73, .bin .geq, [.t 66, .t 72], some (59, true), 33554431, 25⟩, ⟨some 74, .pick, [.t 59, .t 73, .c cf], some (56, false), 67108863, 26⟩, ⟨some 75, .pick, [.t 56, .c ct, .t 74], none, 134217727, 27⟩]) (.cond (.t 75) (.seq (.reg 0 none [m 2 (.c cf) 0]) .ret) .skip))) (.reg 0 none [m 46 (.t 4) 0, o 47 (.bin .add) [.t 46, .c (ci 1)] 1, m 4 (.t 47) 2])))
def c158_s1 : C := (.seq (.reg 0 none [o 76 (.fld 0) [.t 1] 0, o 77 (.load false 1) [.t 76] 1, o 78 (.bin .geq) [.t 77, .c (ci 1)] 2, m 79 (.t 78) 3, ⟨some 80, .fld 0, [.t 1], some (79, true), 0, 4⟩, ⟨some 81, .load false 1, [.t 80], some (79, true), 0, 5⟩, ⟨some 82, .bin .leq, [.t 81, .c (ci 2147483647)], some (79, true), 0, 6⟩, o 83 .pick [.t 79, .t 82, .c cf] 7, m 84 (.t 83) 8, ⟨some 85, .fld 3, [.t 1], some (84, true), 0, 9⟩, ⟨some 86, .load false 1, [.t 85], some (84, true), 0, 10⟩, ⟨some 87, .bin .geq, [.t 86, .c (ci 0)], some (84, true), 0, 11⟩, o 88 .pick [.t 84, .t 87, .c cf] 12, m 89 (.t 88) 13, ⟨some 90, .fld 3, [.t 1], some (89, true), 0, 14⟩, ⟨some 91, .load false 1, [.t 90], some (89, true), 0, 15⟩, ⟨some 92, .bin .lss, [.t 91, .c (ci 8)], some (89, true), 0, 16⟩, o 93 .pick [.t 89, .t 92, .c cf] 17, m 2 (.t 93) 18]) .ret)
def c158_s2 : C := (.seq (.seq (.reg 0 none [m 4 (.c (ci 0)) 0]) (.blk 2 (.loop 59421121885698253195157962770 false c158_3))) c158_s1)
def c158_1 : C := (.seq (.reg 1 none [o 1 (.box 0) [.t 0] 0, m 2 (.c cf) 1]) (.seq (.seq (.reg 0 none [m 3 (.c (ci 0)) 0]) (.blk 0 (.loop 39614081257132168796771975178 false c158_2))) c158_s2))
def c158 : Fn := { fid := 158, np := 1, ntmps := 94, body := (.jn 19807040628566084398385987585 c158_1), res := [.tmp 2] }
def d158_1 (c : Cx) (t0 : V) (H : List Blk) : X := stepK c.pc c.ic c.n (.jn 19807040628566084398385987585 c158_1) (cn 0 94 [(0, t0)]) H (kTop c158.res)
def k158_1 (c : Cx) : KT := thenK (stepK c.pc c.ic c.n c158_s2) (kTop c158.res)
def k158_2 (c : Cx) : KT := blkK 0 (k158_1 c)
def d158_2 (c : Cx) (m n2 : Nat) (t1 t3 : V) (H : List Blk) : X := jnK (loopsK (stepK c.pc c.ic c.n c158_2) 39614081257132168796771975178 false n2 m) (cn 0 94 [(1, t1), (3, t3)]) H (k158_2 c) 39614081257132168796771975178
def k158_3 (c : Cx) : KT := thenK (stepK c.pc c.ic c.n c158_s1) (kTop c158.res)
def k158_4 (c : Cx) : KT := blkK 2 (k158_3 c)
def d158_3 (c : Cx) (m n3 : Nat) (t1 t4 : V) (H : List Blk) : X := jnK (loopsK (stepK c.pc c.ic c.n c158_3) 59421121885698253195157962770 false n3 m) (cn 0 94 [(1, t1), (4, t4)]) H (k158_4 c) 59421121885698253195157962770
def b158_3 (c : Cx) (r3 : F2) (n3 : Nat) (t1 t4 : V) (H : List Blk) : X := p (aFld 2 t1) fun x1 => (aLoad false 1 x1).go H fun x2 H => (aLen 1 x2).go H fun x3 H => p (aBin .lss t4 x3) fun x4 => condK x4 ((fun (t1 t4 : V) (H : L) (c : Cx) (r3 : F2) => (aLoad true 4 t1).go H fun x5 H => p (aFld 2 t1) fun x6 => (fun (t1 t4 x5 x6 : V) (H : L) (c : Cx) (r3 : F2) => (aLoad false 1 x6).go H fun x7 H => p (aIx 3 x7 t4) fun x8 => (aLoad true 3 x8).go H fun x9 H => p (aCall c.pc 247 [x5, x9]) fun x10 => (fun (t1 t4 x10 : V) (H : L) (r3 : F2) => p (aUn .not x10) fun x11 => guardK x11 false (fun k => (aMov t4).go H k) H fun x12 H => guardK x11 false (fun k => (aBin .gtr x12 (ci 0)).go H k) H fun x13 H => guardK x11 false (fun k => (aMov x13).go H k) H fun x14 H => (fun (t1 t4 x11 x14 : V) (H : L) (r3 : F2) => guardK x14 true (fun k => (aFld 2 t1).go H k) H fun x15 H => guardK x14 true (fun k => (aLoad false 1 x15).go H k) H fun x16 H => guardK x14 true (fun k => (aMov t4).go H k) H fun x17 H => guardK x14 true (fun k => (aBin .sub x17 (ci 1)).go H k) H fun x18 H => (fun (t1 t4 x11 x14 x16 x18 : V) (H : L) (r3 : F2) => guardK x14 true (fun k => (aIx 3 x16 x18).go H k) H fun x19 H => guardK x14 true (fun k => (aFld 2 x19).go H k) H fun x20 H => guardK x14 true (fun k => (aLoad false 1 x20).go H k) H fun x21 H => guardK x14 true (fun k => (aFld 2 t1).go H k) H fun x22 H => (fun (t1 t4 x11 x14 x21 x22 : V) (H : L) (r3 : F2) => guardK x14 true (fun k => (aLoad false 1 x22).go H k) H fun x23 H => guardK x14 true (fun k => (aMov t4).go H k) H fun x24 H => guardK x14 true (fun k => (aIx 3 x23 x24).go H k) H fun x25 H => guardK x14 true (fun k => (aFld 2 x25).go H k) H fun x26 H => (fun (t1 t4 x11 x14 x21 x26 : V) (H : L) (r3 : F2) => guardK x14 true (fun k => (aLoad false 1 x26).go H k) H fun x27 H => guardK x14 true (fun k => (aBin .geq x21 x27).go H k) H fun x28 H => guardK x11 false (fun k => (aPick x14 x28 cf).go H k) H fun x29 H => p (aPick x11 ct x29) fun x30 => condK x30 (some (cf, H)) (p (aBin .add t4 (ci 1)) fun x31 => r3 t1 x31 H)) t1 t4 x11 x14 x21 x26 H r3) t1 t4 x11 x14 x21 x22 H r3) t1 t4 x11 x14 x16 x18 H r3) t1 t4 x11 x14 H r3) t1 t4 x10 H r3) t1 t4 x5 x6 H c r3) t1 t4 H c r3) ((fun (t1 : V) (H : L) => p (aFld 0 t1) fun x32 => (aLoad false 1 x32).go H fun x33 H => p (aBin .geq x33 (ci 1)) fun x34 => (fun (t1 x34 : V) (H : L) => guardK x34 true (fun k => (aFld 0 t1).go H k) H fun x35 H => guardK x34 true (fun k => (aLoad false 1 x35).go H k) H fun x36 H => guardK x34 true (fun k => (aBin .leq x36 (ci 2147483647)).go H k) H fun x37 H => p (aPick x34 x37 cf) fun x38 => (fun (t1 x38 : V) (H : L) => guardK x38 true (fun k => (aFld 3 t1).go H k) H fun x39 H => guardK x38 true (fun k => (aLoad false 1 x39).go H k) H fun x40 H => guardK x38 true (fun k => (aBin .geq x40 (ci 0)).go H k) H fun x41 H => p (aPick x38 x41 cf) fun x42 => (fun (t1 x42 : V) (H : L) => guardK x42 true (fun k => (aFld 3 t1).go H k) H fun x43 H => guardK x42 true (fun k => (aLoad false 1 x43).go H k) H fun x44 H => guardK x42 true (fun k => (aBin .lss x44 (ci 8)).go H k) H fun x45 H => p (aPick x42 x45 cf) fun x46 => some (x46, H)) t1 x42 H) t1 x38 H) t1 x34 H) t1 H)
def j158_3 (c : Cx) : Nat → Nat → F2 := recN (fun _ _ _ _ => none) fun ih n3 => b158_3 c (ih n3) n3
theorem o158_3 (c : Cx) : d158_3 c = j158_3 c := by
  unfold j158_3
  refine recN_ok (by kernel_rfl) fun m => funext fun n3 => ?_
  funext t1 t4 H
  refine Eq.trans (jnK_eq 59421121885698253195157962770 _ _ H _) ?_
  kernel_rfl
def b158_2 (c : Cx) (r2 : F2) (j3 : Nat → Nat → F2) (n2 : Nat) (t1 t3 : V) (H : List Blk) : X := p (aFld 1 t1) fun x1 => (aLoad false 1 x1).go H fun x2 H => (aLen 1 x2).go H fun x3 H => p (aBin .lss t3 x3) fun x4 => condK x4 ((fun (t1 t3 : V) (H : L) (c : Cx) (r2 : F2) => (aLoad true 4 t1).go H fun x5 H => p (aFld 1 t1) fun x6 => (aLoad false 1 x6).go H fun x7 H => (fun (t1 t3 x5 x7 : V) (H : L) (c : Cx) (r2 : F2) => p (aIx 3 x7 t3) fun x8 => (aLoad true 3 x8).go H fun x9 H => p (aCall c.pc 247 [x5, x9]) fun x10 => p (aUn .not x10) fun x11 => (fun (t1 t3 x11 : V) (H : L) (c : Cx) (r2 : F2) => guardK x11 false (fun k => (aMov t3).go H k) H fun x12 H => guardK x11 false (fun k => (aBin .gtr x12 (ci 0)).go H k) H fun x13 H => guardK x11 false (fun k => (aMov x13).go H k) H fun x14 H => guardK x14 true (fun k => (aFld 1 t1).go H k) H fun x15 H => (fun (t1 t3 x11 x14 x15 : V) (H : L) (c : Cx) (r2 : F2) => guardK x14 true (fun k => (aLoad false 1 x15).go H k) H fun x16 H => guardK x14 true (fun k => (aMov t3).go H k) H fun x17 H => guardK x14 true (fun k => (aBin .sub x17 (ci 1)).go H k) H fun x18 H => guardK x14 true (fun k => (aIx 3 x16 x18).go H k) H fun x19 H => (fun (t1 t3 x11 x14 x19 : V) (H : L) (c : Cx) (r2 : F2) => guardK x14 true (fun k => (aFld 0 x19).go H k) H fun x20 H => guardK x14 true (fun k => (aLoad true 2 x20).go H k) H fun x21 H => guardK x14 true (fun k => (aFld 1 t1).go H k) H fun x22 H => guardK x14 true (fun k => (aLoad false 1 x22).go H k) H fun x23 H => (fun (t1 t3 x11 x14 x21 x23 : V) (H : L) (c : Cx) (r2 : F2) => guardK x14 true (fun k => (aMov t3).go H k) H fun x24 H => guardK x14 true (fun k => (aIx 3 x23 x24).go H k) H fun x25 H => guardK x14 true (fun k => (aFld 0 x25).go H k) H fun x26 H => guardK x14 true (fun k => (aLoad true 2 x26).go H k) H fun x27 H => (fun (t1 t3 x11 x14 x21 x27 : V) (H : L) (c : Cx) (r2 : F2) => guardK x14 true (fun k => (aCall c.pc 248 [x21, x27]).go H k) H fun x28 H => guardK x14 true (fun k => (aUn .not x28).go H k) H fun x29 H => guardK x11 false (fun k => (aPick x14 x29 cf).go H k) H fun x30 H => p (aPick x11 ct x30) fun x31 => condK x31 (some (cf, H)) (p (aBin .add t3 (ci 1)) fun x32 => r2 t1 x32 H)) t1 t3 x11 x14 x21 x27 H c r2) t1 t3 x11 x14 x21 x23 H c r2) t1 t3 x11 x14 x19 H c r2) t1 t3 x11 x14 x15 H c r2) t1 t3 x11 H c r2) t1 t3 x5 x7 H c r2) t1 t3 H c r2) (j3 c.n H.length t1 (ci 0) H)
def j158_2 (c : Cx) : Nat → Nat → F2 := recN (fun _ _ _ _ => none) fun ih n2 => b158_2 c (ih n2) (j158_3 c) n2
theorem o158_2 (c : Cx) : d158_2 c = j158_2 c := by
  unfold j158_2
  refine recN_ok (by kernel_rfl) fun m => funext fun n2 => ?_
  simp only [← o158_3]
  funext t1 t3 H
  refine Eq.trans (jnK_eq 39614081257132168796771975178 _ _ H _) ?_
  kernel_rfl
def b158_1 (c : Cx) (j2 : Nat → Nat → F2) (t0 : V) (H : List Blk) : X := newK 1 H fun q H => (aBox (q + 0) t0).go H fun x1 H => j2 c.n H.length x1 (ci 0) H
def j158_1 (c : Cx) : F1 := b158_1 c (j158_2 c)
theorem o158_1 (c : Cx) : d158_1 c = j158_1 c := by
  unfold j158_1; rw [← o158_2]
  funext t0 H
  refine Eq.trans (stepK_jn c.pc c.ic c.n _ H _ 19807040628566084398385987585 c158_1) ?_
  kernel_rfl
def b158_0 (c : Cx) (j1 : F1) (t0 : V) (H : List Blk) : X := j1 t0 H
def s158 (c : Cx) (args : List V) (H : List Blk) : X := argsK 1 args (b158_0 c (j158_1 c) (getT args 0) H)
theorem e158 (pc ic n args H) : runK pc ic n c158 args H = s158 ⟨pc, ic, n⟩ args H := by
  unfold s158; rw [← o158_1]
  kernel_rfl
def L158 : Leaf := ⟨c158, fun pc ic n => s158 ⟨pc, ic, n⟩, e158⟩
theorem kk158 : chkFn Go.Proofs.Tryz.prog ET 158 c158 = true := by kernel_rfl

def c162_3 : C := (.blk 2 (.seq (.reg 0 none [m 49 (.t 13) 0, o 50 (.un .not) [.t 49] 1, m 48 (.t 50) 2]) (.cond (.t 48) (.seq (.reg 0 (some ⟨true, [0, 4, 1, 2, 3, 5], 76⟩) [m 51 (.t 6) 0, o 52 (.fld 0) [.t 12] 1, ⟨some 53, .load false 1, [.t 52], none, 2, 2⟩, ⟨some 54, .bin .sub, [.t 53, .c (ci 1)], none, 6, 3⟩, ⟨some 6, .mov, [.t 51], none, 1, 4⟩, ⟨some 7, .mov, [.t 54], none, 31, 5⟩]) .ret) (.seq (.reg 0 none [o 56 (.load true 7) [.t 3] 0, o 57 (.load true 2) [.t 12] 1, o 58 (.call 251) [.t 56, .t 57, .c (.d (.str [46, 119, 104, 46, 46, 119, 104, 46, 46, 111, 112, 113]))] 2, m 55 (.t 58) 3]) (.cond (.t 55) (.seq (.reg 0 (some ⟨true, [0, 3, 1, 2, 4], 76⟩) [m 59 (.t 6) 0, o 60 (.fld 0) [.t 12] 1, ⟨some 61, .load false 1, [.t 60], none, 2, 2⟩, ⟨some 6, .mov, [.t 59], none, 1, 3⟩, ⟨some 7, .mov, [.t 61], none, 15, 4⟩]) .ret) .skip)))))
def c162_4 : C := (.seq (.reg 0 (some ⟨true, [], 76⟩) [o 62 (.load true 7) [.t 3] 0, o 63 (.load true 2) [.t 9] 1, m 64 (.t 2) 2, ⟨some 65, .call 100, [.t 64], none, 4, 3⟩, ⟨some 66, .call 251, [.t 62, .t 63, .t 65], none, 15, 4⟩]) (.cond (.t 66) (.seq (.reg 0 (some ⟨true, [0, 3, 1, 2, 4], 76⟩) [m 67 (.t 6) 0, o 68 (.fld 0) [.t 9] 1, ⟨some 69, .load false 1, [.t 68], none, 2, 2⟩, ⟨some 6, .mov, [.t 67], none, 1, 3⟩, ⟨some 7, .mov, [.t 69], none, 15, 4⟩]) .ret) .skip))
def c162_s1 : C := (.reg 0 none [o 70 (.bin .add) [.t 16, .c (ci 1)] 0, m 16 (.t 70) 1])
def c162_2 : C := (.seq (.reg 0 none [o 17 (.bin .lss) [.t 16, .t 15] 0]) (.seq (.cond (.t 17) .skip (.exit 0)) (.seq (.blk 1 (.seq (.reg 1 none [o 18 (.ix 2) [.t 14, .t 16] 0, o 19 (.load true 2) [.t 18] 1, o 9 (.alloc 0 [(ci 0), (ci 0)]) [] 2, ⟨none, .store 2, [.t 9, .t 19], none, 0, 3⟩]) (.seq (.seq (.reg 0 none [o 21 (.load true 7) [.t 3] 0, o 22 (.load true 2) [.t 9] 1, o 23 (.call 196) [.t 21, .t 22] 2, m 24 (.t 2) 3, o 25 (.call 90) [.t 23, .t 24] 4, m 20 (.t 25) 5, o 26 (.ext 0) [.t 20] 6, o 27 (.ext 1) [.t 20] 7, m 10 (.t 26) 8, m 11 (.t 27) 9]) (.seq (.reg 0 none [m 28 (.t 11) 0]) (.cond (.t 28) (.seq (.reg 1 none [o 29 (.fld 0) [.t 9] 0, o 30 (.load false 1) [.t 29] 1, m 31 (.t 10) 2, o 32 (.build [(ci 0), (ci 0)] [(0, 1), (1, 1)]) [.t 30, .t 31] 3, o 12 (.alloc 0 [(ci 0), (ci 0)]) [] 4, ⟨none, .store 2, [.t 12, .t 32], none, 0, 5⟩]) (.seq (.reg 0 none [o 33 (.load true 7) [.t 3] 0, o 34 (.load true 2) [.t 12] 1, o 35 (.call 196) [.t 33, .t 34] 2, o 36 (.fldv 1 1 false) [.t 35] 3, o 37 (.bin .eql) [.t 36, .c (ci 2)] 4, m 13 (.t 37) 5]) (.seq (.seq (.reg 0 none [m 38 (.t 13) 0, m 39 (.t 38) 1, ⟨some 40, .mov, [.t 6], some (39, false), 0, 2⟩, ⟨some 41, .len 1, [.t 40], some (39, false), 0, 3⟩, ⟨some 42, .bin .eql, [.t 41, .c (ci 0)], some (39, false), 0, 4⟩, o 43 .pick [.t 39, .c ct, .t 42] 5]) (.cond (.t 43) (.reg 1 none [m 44 (.t 6) 0, o 45 (.load true 2) [.t 12] 1, o 46 (.bsl 2 z13 1 [0]) [.t 45] 2, o 47 (.app 0 2 16) [.t 44, .t 46] 3, m 6 (.t 47) 4]) .skip)) (.jn 226673591177742970384972 c162_3)))) .skip))) (.jn 302231454903657293791820 c162_4)))) c162_s1)))
def c162_s2 : C := (.seq (.reg 0 (some ⟨true, [0, 1, 2, 3, 5, 4, 6], 76⟩) [m 71 (.t 6) 0, o 72 (.fld 2) [.t 3] 1, ⟨some 73, .load false 1, [.t 72], none, 2, 2⟩, ⟨some 74, .len 1, [.t 73], none, 6, 3⟩, ⟨some 75, .bin .sub, [.t 74, .c (ci 1)], none, 14, 4⟩, ⟨some 6, .mov, [.t 71], none, 1, 5⟩, ⟨some 7, .mov, [.t 75], none, 63, 6⟩]) .ret)
def c162_1 : C := (.seq (.reg 1 none [o 3 (.box 0) [.t 0] 0, m 6 (.c .nilS) 1, m 7 (.c (ci 0)) 2]) (.seq (.seq (.reg 0 none [m 14 (.t 1) 0, o 15 (.len 1) [.t 14] 1, m 16 (.c (ci 0)) 2]) (.blk 0 (.loop 151115727451828646953036 false c162_2))) c162_s2))
def c162 : Fn := { fid := 162, np := 3, ntmps := 76, body := (.jn 75557863725914323419143 c162_1), res := [.tmp 6, .tmp 7] }
def d162_1 (c : Cx) (t0 t1 t2 : V) (H : List Blk) : X := stepK c.pc c.ic c.n (.jn 75557863725914323419143 c162_1) (cn 0 76 [(0, t0), (1, t1), (2, t2)]) H (kTop c162.res)
def k162_1 (c : Cx) : KT := thenK (stepK c.pc c.ic c.n c162_s2) (kTop c162.res)
def k162_2 (c : Cx) : KT := blkK 0 (k162_1 c)
def d162_2 (c : Cx) (m n2 : Nat) (t2 t3 t6 t14 t15 t16 : V) (H : List Blk) : X := jnK (loopsK (stepK c.pc c.ic c.n c162_2) 151115727451828646953036 false n2 m) (cn 0 76 [(2, t2), (3, t3), (6, t6), (14, t14), (15, t15), (16, t16)]) H (k162_2 c) 151115727451828646953036
def k162_3 (c : Cx) (m2 n2 : Nat) : KT := thenK (fun ts H k => jnK (loopsK (stepK c.pc c.ic c.n c162_2) 151115727451828646953036 false n2 m2) (maskT 151115727451828646953036 0 ts) H k 151115727451828646953036) (k162_2 c)
def k162_4 (c : Cx) (m2 n2 : Nat) : KT := thenK (stepK c.pc c.ic c.n c162_s1) (k162_3 c m2 n2)
def k162_5 (c : Cx) (m2 n2 : Nat) : KT := blkK 1 (k162_4 c m2 n2)
def k162_6 (c : Cx) (m2 n2 : Nat) : KT := thenK (stepK c.pc c.ic c.n (.jn 302231454903657293791820 c162_4)) (k162_5 c m2 n2)
def d162_3 (c : Cx) (m2 n2 : Nat) (t2 t3 t6 t9 t12 t13 t14 t15 t16 : V) (H : List Blk) : X := stepK c.pc c.ic c.n (.jn 226673591177742970384972 c162_3) (cn 0 76 [(2, t2), (3, t3), (6, t6), (9, t9), (12, t12), (13, t13), (14, t14), (15, t15), (16, t16)]) H (k162_6 c m2 n2)
def d162_4 (c : Cx) (m2 n2 : Nat) (t2 t3 t6 t9 t14 t15 t16 : V) (H : List Blk) : X := stepK c.pc c.ic c.n (.jn 302231454903657293791820 c162_4) (cn 0 76 [(2, t2), (3, t3), (6, t6), (9, t9), (14, t14), (15, t15), (16, t16)]) H (k162_5 c m2 n2)
def b162_4 (c : Cx) (r2 : F6) (t2 t3 t6 t9 t14 t15 t16 : V) (H : List Blk) : X := (aLoad true 7 t3).go H fun x1 H => (aLoad true 2 t9).go H fun x2 H => p (aCall c.pc 100 [t2]) fun x3 => p (aCall c.pc 251 [x1, x2, x3]) fun x4 => condK x4 (p (aFld 0 t9) fun x5 => (aLoad false 1 x5).go H fun x6 H => some (.tup [t6, x6], H)) (p (aBin .add t16 (ci 1)) fun x7 => r2 t2 t3 t6 t14 t15 x7 H)
def j162_4 (c : Cx) (r2 : F6) : F7 := b162_4 c r2
theorem o162_4 (c : Cx) (m2 n2 : Nat) : d162_4 c m2 n2 = j162_4 c (d162_2 c m2 n2) := by
  unfold j162_4
  funext t2 t3 t6 t9 t14 t15 t16 H
  refine Eq.trans (stepK_jn c.pc c.ic c.n _ H _ 302231454903657293791820 c162_4) ?_
  kernel_rfl
def b162_3 (c : Cx) (j4 : F7) (t2 t3 t6 t9 t12 t13 t14 t15 t16 : V) (H : List Blk) : X := p (aUn .not t13) fun x1 => condK x1 (p (aFld 0 t12) fun x2 => (aLoad false 1 x2).go H fun x3 H => p (aBin .sub x3 (ci 1)) fun x4 => some (.tup [t6, x4], H)) ((fun (t2 t3 t6 t9 t12 t14 t15 t16 : V) (H : L) (c : Cx) (j4 : F7) => (aLoad true 7 t3).go H fun x5 H => (aLoad true 2 t12).go H fun x6 H => p (aCall c.pc 251 [x5, x6, (.d (.str [46, 119, 104, 46, 46, 119, 104, 46, 46, 111, 112, 113]))]) fun x7 => condK x7 (p (aFld 0 t12) fun x8 => (aLoad false 1 x8).go H fun x9 H => some (.tup [t6, x9], H)) (j4 t2 t3 t6 t9 t14 t15 t16 H)) t2 t3 t6 t9 t12 t14 t15 t16 H c j4)
def j162_3 (c : Cx) (r2 : F6) : F9 := b162_3 c (j162_4 c r2)
theorem o162_3 (c : Cx) (m2 n2 : Nat) : d162_3 c m2 n2 = j162_3 c (d162_2 c m2 n2) := by
  unfold j162_3; rw [← o162_4]
  funext t2 t3 t6 t9 t12 t13 t14 t15 t16 H
  refine Eq.trans (stepK_jn c.pc c.ic c.n _ H _ 226673591177742970384972 c162_3) ?_
  kernel_rfl
def b162_2 (c : Cx) (j3 : F9) (j4 : F7) (n2 : Nat) (t2 t3 t6 t14 t15 t16 : V) (H : List Blk) : X := p (aBin .lss t16 t15) fun x1 => condK x1 ((fun (t2 t3 t6 t14 t15 t16 : V) (H : L) (c : Cx) (j3 : F9) (j4 : F7) => newK 1 H fun q H => (fun (t2 t3 t6 t14 t15 t16 : V) (q : Nat) (H : L) (c : Cx) (j3 : F9) (j4 : F7) => p (aIx 2 t14 t16) fun x2 => (aLoad true 2 x2).go H fun x3 H => (aAlloc (q + 0) [(ci 0), (ci 0)]).go H fun x4 H => (aStore 2 x4 x3).go H fun _ H => (aLoad true 7 t3).go H fun x5 H => (aLoad true 2 x4).go H fun x6 H => (fun (t2 t3 t6 t14 t15 t16 x4 x5 x6 : V) (H : L) (c : Cx) (j3 : F9) (j4 : F7) => p (aCall c.pc 196 [x5, x6]) fun x7 => p (aCall c.pc 90 [x7, t2]) fun x8 => p (aExt 0 x8) fun x9 => p (aExt 1 x8) fun x10 => condK x10 ((fun (t2 t3 t6 t14 t15 t16 x4 x9 : V) (H : L) (c : Cx) (j3 : F9) => newK 1 H fun q H => p (aFld 0 x4) fun x11 => (fun (t2 t3 t6 t14 t15 t16 x4 x9 x11 : V) (q : Nat) (H : L) (c : Cx) (j3 : F9) => (aLoad false 1 x11).go H fun x12 H => p (aBuild [(ci 0), (ci 0)] [(0, 1), (1, 1)] [x12, x9]) fun x13 => (aAlloc (q + 0) [(ci 0), (ci 0)]).go H fun x14 H => (aStore 2 x14 x13).go H fun _ H => (aLoad true 7 t3).go H fun x15 H => (fun (t2 t3 t6 t14 t15 t16 x4 x14 x15 : V) (H : L) (c : Cx) (j3 : F9) => (aLoad true 2 x14).go H fun x16 H => p (aCall c.pc 196 [x15, x16]) fun x17 => p (aFldv 1 1 false x17) fun x18 => p (aBin .eql x18 (ci 2)) fun x19 => guardK x19 false (fun k => (aMov t6).go H k) H fun x20 H => guardK x19 false (fun k => (aLen 1 x20).go H k) H fun x21 H => guardK x19 false (fun k => (aBin .eql x21 (ci 0)).go H k) H fun x22 H => p (aPick x19 ct x22) fun x23 => condK x23 ((fun (t2 t3 t6 t14 t15 t16 x4 x14 x19 : V) (H : L) (j3 : F9) => newK 1 H fun q H => (aLoad true 2 x14).go H fun x24 H => p (aBsl 2 z13 1 [0] [x24]) fun x25 => (aApp (q + 0) 2 16 t6 x25).go H fun x26 H => j3 t2 t3 x26 x4 x14 x19 t14 t15 t16 H) t2 t3 t6 t14 t15 t16 x4 x14 x19 H j3) (j3 t2 t3 t6 x4 x14 x19 t14 t15 t16 H)) t2 t3 t6 t14 t15 t16 x4 x14 x15 H c j3) t2 t3 t6 t14 t15 t16 x4 x9 x11 q H c j3) t2 t3 t6 t14 t15 t16 x4 x9 H c j3) (j4 t2 t3 t6 x4 t14 t15 t16 H)) t2 t3 t6 t14 t15 t16 x4 x5 x6 H c j3 j4) t2 t3 t6 t14 t15 t16 q H c j3 j4) t2 t3 t6 t14 t15 t16 H c j3 j4) (p (aFld 2 t3) fun x27 => (aLoad false 1 x27).go H fun x28 H => (aLen 1 x28).go H fun x29 H => p (aBin .sub x29 (ci 1)) fun x30 => some (.tup [t6, x30], H))
def j162_2 (c : Cx) : Nat → Nat → F6 := recN (fun _ _ _ _ _ _ _ _ => none) fun ih n2 => b162_2 c (j162_3 c (ih n2)) (j162_4 c (ih n2)) n2
theorem o162_2 (c : Cx) : d162_2 c = j162_2 c := by
  unfold j162_2
  refine recN_ok (by kernel_rfl) fun m => funext fun n2 => ?_
  simp only [← o162_3, ← o162_4]
  funext t2 t3 t6 t14 t15 t16 H
  refine Eq.trans (jnK_eq 151115727451828646953036 _ _ H _) ?_
  kernel_rfl
def b162_1 (c : Cx) (j2 : Nat → Nat → F6) (t0 t1 t2 : V) (H : List Blk) : X := newK 1 H fun q H => (aBox (q + 0) t0).go H fun x1 H => (aLen 1 t1).go H fun x2 H => j2 c.n H.length t2 x1 .nilS t1 x2 (ci 0) H
def j162_1 (c : Cx) : F3 := b162_1 c (j162_2 c)
theorem o162_1 (c : Cx) : d162_1 c = j162_1 c := by
  unfold j162_1; rw [← o162_2]
  funext t0 t1 t2 H
  refine Eq.trans (stepK_jn c.pc c.ic c.n _ H _ 75557863725914323419143 c162_1) ?_
  kernel_rfl
def b162_0 (c : Cx) (j1 : F3) (t0 t1 t2 : V) (H : List Blk) : X := j1 t0 t1 t2 H
def s162 (c : Cx) (args : List V) (H : List Blk) : X := argsK 3 args (b162_0 c (j162_1 c) (getT args 0) (getT args 1) (getT args 2) H)
theorem e162 (pc ic n args H) : runK pc ic n c162 args H = s162 ⟨pc, ic, n⟩ args H := by
  unfold s162; rw [← o162_1]
  kernel_rfl
def L162 : Leaf := ⟨c162, fun pc ic n => s162 ⟨pc, ic, n⟩, e162⟩
theorem kk162 : chkFn Go.Proofs.Tryz.prog ET 162 c162 = true := by kernel_rfl

def c163_2 : C := (.seq (.reg 0 none [o 9 (.bin .lss) [.t 8, .t 7] 0]) (.seq (.cond (.t 9) .skip (.exit 0)) (.seq (.blk 1 (.seq (.reg 0 none [o 10 (.ix 1) [.t 6, .t 8] 0, o 11 (.load false 1) [.t 10] 1, m 5 (.t 11) 2]) (.seq (.reg 0 none [m 12 (.t 5) 0, m 13 (.t 3) 1, o 14 (.bin .neq) [.t 12, .t 13] 2]) (.cond (.t 14) (.seq (.reg 0 none [m 15 (.t 5) 0, m 2 (.t 15) 1]) .ret) .skip)))) (.reg 0 none [o 16 (.bin .add) [.t 8, .c (ci 1)] 0, m 8 (.t 16) 1]))))
def c163_s1 : C := (.seq (.reg 0 none [m 17 (.t 3) 0, m 2 (.t 17) 1]) .ret)
def c163_1 : C := (.seq (.reg 0 none [m 2 (.c (ci 0)) 0]) (.seq (.reg 0 none [m 3 (.c (ci 0)) 0]) (.seq (.seq (.reg 0 none [m 6 (.t 0) 0, o 7 (.len 1) [.t 6] 1, m 8 (.c (ci 0)) 2]) (.blk 0 (.loop 524744 false c163_2))) c163_s1)))
def c163 : Fn := { fid := 163, np := 1, ntmps := 18, body := (.jn 262145 c163_1), res := [.tmp 2] }
def L163 : Leaf := coldL c163
theorem kk163 : chkFn Go.Proofs.Tryz.prog ET 163 c163 = true := by kernel_rfl

def c164_1 : C := (.seq (.reg 0 none [m 4 (.c (ci 0)) 0]) (.seq (.reg 0 none [m 7 (.t 0) 0, o 8 (.call 252) [.t 7] 1, m 5 (.t 8) 2]) (.seq (.reg 0 none [m 9 (.t 1) 0, o 10 (.call 252) [.t 9] 1, m 6 (.t 10) 2]) (.seq (.seq (.reg 0 none [m 11 (.t 5) 0]) (.cond (.t 11) (.seq (.seq (.reg 0 none [m 12 (.t 6) 0]) (.cond (.t 12) (.seq (.reg 0 none [m 4 (.c (ci 0)) 0]) .ret) .skip)) (.seq (.reg 0 none [m 4 (.c (ci (-1))) 0]) .ret)) .skip)) (.seq (.seq (.reg 0 none [m 13 (.t 6) 0]) (.cond (.t 13) (.seq (.reg 0 none [m 4 (.c (ci 1)) 0]) .ret) .skip)) (.seq (.seq (.reg 0 none [m 14 (.t 0) 0, m 15 (.t 1) 1, o 16 (.bin .lss) [.t 14, .t 15] 2]) (.cond (.t 16) (.seq (.reg 0 none [m 4 (.c (ci (-1))) 0]) .ret) .skip)) (.seq (.seq (.reg 0 none [m 17 (.t 0) 0, m 18 (.t 1) 1, o 19 (.bin .gtr) [.t 17, .t 18] 2]) (.cond (.t 19) (.seq (.reg 0 none [m 4 (.c (ci 1)) 0]) .ret) .skip)) (.seq (.reg 0 none [m 4 (.c (ci 0)) 0]) .ret))))))))
def c164 : Fn := { fid := 164, np := 2, ntmps := 20, body := (.jn 1048579 c164_1), res := [.tmp 4] }
def L164 : Leaf := coldL c164
theorem kk164 : chkFn Go.Proofs.Tryz.prog ET 164 c164 = true := by kernel_rfl

def c165_1 : C := (.seq (.reg 0 none [m 4 (.c (ci 0)) 0]) (.seq (.reg 0 none [m 7 (.t 0) 0, o 8 (.call 253) [.t 7] 1, m 5 (.t 8) 2]) (.seq (.reg 0 none [m 9 (.t 1) 0, o 10 (.call 253) [.t 9] 1, m 6 (.t 10) 2]) (.seq (.seq (.reg 0 none [m 11 (.t 5) 0]) (.cond (.t 11) (.seq (.seq (.reg 0 none [m 12 (.t 6) 0]) (.cond (.t 12) (.seq (.reg 0 none [m 4 (.c (ci 0)) 0]) .ret) .skip)) (.seq (.reg 0 none [m 4 (.c (ci (-1))) 0]) .ret)) .skip)) (.seq (.seq (.reg 0 none [m 13 (.t 6) 0]) (.cond (.t 13) (.seq (.reg 0 none [m 4 (.c (ci 1)) 0]) .ret) .skip)) (.seq (.seq (.reg 0 none [m 14 (.t 0) 0, m 15 (.t 1) 1, o 16 (.bin .lss) [.t 14, .t 15] 2]) (.cond (.t 16) (.seq (.reg 0 none [m 4 (.c (ci (-1))) 0]) .ret) .skip)) (.seq (.seq (.reg 0 none [m 17 (.t 0) 0, m 18 (.t 1) 1, o 19 (.bin .gtr) [.t 17, .t 18] 2]) (.cond (.t 19) (.seq (.reg 0 none [m 4 (.c (ci 1)) 0]) .ret) .skip)) (.seq (.reg 0 none [m 4 (.c (ci 0)) 0]) .ret))))))))
def c165 : Fn := { fid := 165, np := 2, ntmps := 20, body := (.jn 1048579 c165_1), res := [.tmp 4] }
def d165_1 (c : Cx) (t0 t1 : V) (H : List Blk) : X := stepK c.pc c.ic c.n (.jn 1048579 c165_1) (cn 0 20 [(0, t0), (1, t1)]) H (kTop c165.res)
def b165_1 (c : Cx) (t0 t1 : V) (H : List Blk) : X := p (aCall c.pc 253 [t0]) fun x1 => p (aCall c.pc 253 [t1]) fun x2 => condK x1 (condK x2 (some ((ci 0), H)) (some ((ci (-1)), H))) ((fun (t0 t1 x2 : V) (H : L) => condK x2 (some ((ci 1), H)) (p (aBin .lss t0 t1) fun x3 => condK x3 (some ((ci (-1)), H)) (p (aBin .gtr t0 t1) fun x4 => condK x4 (some ((ci 1), H)) (some ((ci 0), H))))) t0 t1 x2 H)
def j165_1 (c : Cx) : F2 := b165_1 c
theorem o165_1 (c : Cx) : d165_1 c = j165_1 c := by
  unfold j165_1
  funext t0 t1 H
  refine Eq.trans (stepK_jn c.pc c.ic c.n _ H _ 1048579 c165_1) ?_
  kernel_rfl
def b165_0 (c : Cx) (j1 : F2) (t0 t1 : V) (H : List Blk) : X := j1 t0 t1 H
def s165 (c : Cx) (args : List V) (H : List Blk) : X := argsK 2 args (b165_0 c (j165_1 c) (getT args 0) (getT args 1) H)
theorem e165 (pc ic n args H) : runK pc ic n c165 args H = s165 ⟨pc, ic, n⟩ args H := by
  unfold s165; rw [← o165_1]
  kernel_rfl
def L165 : Leaf := ⟨c165, fun pc ic n => s165 ⟨pc, ic, n⟩, e165⟩
theorem kk165 : chkFn Go.Proofs.Tryz.prog ET 165 c165 = true := by kernel_rfl

def c166 : Fn := { fid := 166, np := 2, ntmps := 12, body := (.seq (.reg 1 none [o 2 (.box 0) [.t 0] 0, m 4 (.c (ci 0)) 1, m 5 (.c cf) 2]) (.seq (.reg 0 none [o 6 (.fld 3) [.t 2] 0, o 7 (.load false 1) [.t 6] 1, m 8 (.t 1) 2, o 9 (.icall 254) [.t 7, .t 8, .c (.fn 255 [])] 3, o 10 (.ext 0) [.t 9] 4, o 11 (.ext 1) [.t 9] 5, m 4 (.t 10) 6, m 5 (.t 11) 7]) .ret)), res := [.tmp 4, .tmp 5] }
def b166_0 (c : Cx) (t0 t1 : V) (H : List Blk) : X := newK 1 H fun q H => (aBox (q + 0) t0).go H fun x1 H => p (aFld 3 x1) fun x2 => (aLoad false 1 x2).go H fun x3 H => icK c 254 [x3, t1, (.fn 255 [])] H fun x4 H => p (aExt 0 x4) fun x5 => p (aExt 1 x4) fun x6 => some (.tup [x5, x6], H)
def s166 (c : Cx) (args : List V) (H : List Blk) : X := argsK 2 args (b166_0 c (getT args 0) (getT args 1) H)
theorem e166 (pc ic n args H) : runK pc ic n c166 args H = s166 ⟨pc, ic, n⟩ args H := by
  unfold s166
  kernel_rfl
def L166 : Leaf := ⟨c166, fun pc ic n => s166 ⟨pc, ic, n⟩, e166⟩
theorem kk166 : chkFn Go.Proofs.Tryz.prog ET 166 c166 = true := by kernel_rfl

def c167_1 : C := (.seq (.reg 2 none [o 1 (.box 0) [.t 0] 0, o 2 (.alloc 1 z1) [] 1]) (.seq (.reg 0 none [o 3 (.fld 4) [.t 1] 0, o 4 (.load true 2) [.t 3] 1, o 5 (.call 256) [.t 4] 2, o 6 (.fld 4) [.t 1] 3, ⟨none, .store 2, [.t 6, .t 5], none, 0, 4⟩]) (.seq (.reg 1 none [o 7 (.fld 7) [.t 1] 0, o 8 (.load false 1) [.t 7] 1, o 9 (.cloneA 0 2 24) [.t 8] 2, o 10 (.fld 7) [.t 1] 3, ⟨none, .store 1, [.t 10, .t 9], none, 0, 4⟩]) (.seq (.reg 0 none [o 11 (.load true 8) [.t 1] 0, ⟨none, .store 8, [.t 2, .t 11], none, 0, 1⟩]) .ret))))
def c167 : Fn := { fid := 167, np := 1, ntmps := 12, body := (.jn 4097 c167_1), res := [.cell 2 true 8] }
def d167_1 (c : Cx) (t0 : V) (H : List Blk) : X := stepK c.pc c.ic c.n (.jn 4097 c167_1) (cn 0 12 [(0, t0)]) H (kTop c167.res)
def b167_1 (c : Cx) (t0 : V) (H : List Blk) : X := newK 2 H fun q H => (aBox (q + 0) t0).go H fun x1 H => (aAlloc (q + 1) z1).go H fun x2 H => p (aFld 4 x1) fun x3 => (fun (x1 x2 x3 : V) (H : L) (c : Cx) => (aLoad true 2 x3).go H fun x4 H => p (aCall c.pc 256 [x4]) fun x5 => p (aFld 4 x1) fun x6 => (aStore 2 x6 x5).go H fun _ H => newK 1 H fun q H => p (aFld 7 x1) fun x7 => (fun (x1 x2 x7 : V) (q : Nat) (H : L) => (aLoad false 1 x7).go H fun x8 H => (aCloneA (q + 0) 2 24 x8).go H fun x9 H => p (aFld 7 x1) fun x10 => (aStore 1 x10 x9).go H fun _ H => (aLoad true 8 x1).go H fun x11 H => (aStore 8 x2 x11).go H fun _ H => bnd (loadV true 8 x2 H) fun x12 => some (x12, H)) x1 x2 x7 q H) x1 x2 x3 H c
def j167_1 (c : Cx) : F1 := b167_1 c
theorem o167_1 (c : Cx) : d167_1 c = j167_1 c := by
  unfold j167_1
  funext t0 H
  refine Eq.trans (stepK_jn c.pc c.ic c.n _ H _ 4097 c167_1) ?_
  kernel_rfl
def b167_0 (c : Cx) (j1 : F1) (t0 : V) (H : List Blk) : X := j1 t0 H
def s167 (c : Cx) (args : List V) (H : List Blk) : X := argsK 1 args (b167_0 c (j167_1 c) (getT args 0) H)
theorem e167 (pc ic n args H) : runK pc ic n c167 args H = s167 ⟨pc, ic, n⟩ args H := by
  unfold s167; rw [← o167_1]
  kernel_rfl
def L167 : Leaf := ⟨c167, fun pc ic n => s167 ⟨pc, ic, n⟩, e167⟩
theorem kk167 : chkFn Go.Proofs.Tryz.prog ET 167 c167 = true := by kernel_rfl

def c168 : Fn := { fid := 168, np := 2, ntmps := 14, body := (.seq (.reg 2 none [o 2 (.box 0) [.t 0] 0, o 4 (.alloc 1 z1) [] 1]) (.seq (.reg 1 none [o 8 (.load true 4) [.t 2] 0, m 9 (.t 1) 1, o 10 (.call 85) [.t 8, .t 9] 2, m 7 (.t 10) 3, o 11 (.ext 0) [.t 7] 4, o 12 (.ext 1) [.t 7] 5, o 5 (.alloc 0 z1) [] 6, ⟨none, .store 8, [.t 5, .t 11], none, 0, 7⟩, m 6 (.t 12) 8]) (.seq (.reg 0 none [o 13 (.load true 8) [.t 5] 0, ⟨none, .store 8, [.t 4, .t 13], none, 0, 1⟩]) .ret))), res := [.cell 4 true 8] }
def L168 : Leaf := coldL c168
theorem kk168 : chkFn Go.Proofs.Tryz.prog ET 168 c168 = true := by kernel_rfl

def c169_2 : C := (.seq (.reg 0 none [o 10 (.bin .lss) [.t 9, .t 8] 0]) (.seq (.cond (.t 10) .skip (.exit 0)) (.seq (.blk 1 (.seq (.reg 1 none [o 11 (.ix 8) [.t 7, .t 9] 0, o 12 (.load true 8) [.t 11] 1, o 5 (.alloc 0 z1) [] 2, ⟨none, .store 8, [.t 5, .t 12], none, 0, 3⟩]) (.reg 0 none [m 13 (.t 2) 0, o 14 (.fld 4) [.t 5] 1, o 15 (.fld 1) [.t 14] 2, o 16 (.load false 1) [.t 15] 3, o 17 (.len 1) [.t 16] 4, o 18 (.bin .add) [.t 13, .t 17] 5, m 2 (.t 18) 6]))) (.reg 0 none [o 19 (.bin .add) [.t 9, .c (ci 1)] 0, m 9 (.t 19) 1]))))
def c169_s1 : C := (.seq (.reg 0 (some ⟨true, [0, 1, 2, 3, 4, 5], 24⟩) [m 20 (.t 2) 0, o 21 (.fld 3) [.t 1] 1, ⟨some 22, .load false 1, [.t 21], none, 2, 2⟩, ⟨some 23, .len 1, [.t 22], none, 6, 3⟩, ⟨some 2, .mov, [.t 20], none, 1, 4⟩, ⟨some 3, .mov, [.t 23], none, 31, 5⟩]) .ret)
def c169_1 : C := (.seq (.reg 1 none [o 1 (.box 0) [.t 0] 0, m 2 (.c (ci 0)) 1, m 3 (.c (ci 0)) 2]) (.seq (.seq (.reg 0 none [o 6 (.fld 3) [.t 1] 0, o 7 (.load false 1) [.t 6] 1, o 8 (.len 1) [.t 7] 2, m 9 (.c (ci 0)) 3]) (.blk 0 (.loop 33555334 true c169_2))) c169_s1))
def c169 : Fn := { fid := 169, np := 1, ntmps := 24, body := (.jn 16777217 c169_1), res := [.tmp 2, .tmp 3] }
def L169 : Leaf := coldL c169
theorem kk169 : chkFn Go.Proofs.Tryz.prog ET 169 c169 = true := by kernel_rfl

def c170_2 : C := (.seq (.reg 0 none [o 23 (.load true 4) [.t 2] 0, ⟨none, .store 4, [.t 4, .t 23], none, 0, 1⟩]) .ret)
def c170_3 : C := (.seq (.reg 0 none [o 32 (.load true 4) [.t 2] 0, ⟨none, .store 4, [.t 4, .t 32], none, 0, 1⟩]) .ret)
def l170_0 : List O := [o 24 (.fld 3) [.t 2] 0, ⟨some 25, .load false 1, [.t 24], none, 1, 1⟩, m 26 (.t 5) 2, o 27 (.load true 8) [.t 3] 3, ⟨some 28, .icall 167, [.t 27], none, 8, 4⟩, ⟨some 29, .bsa 0 8 z1 1 [0], [.t 28], none, 24, 5⟩, ⟨some 30, .insA 1 8 104, [.t 25, .t 26, .t 29], none, 63, 6⟩, ⟨some 31, .fld 3, [.t 2], none, 127, 7⟩, ⟨none, .store 1, [.t 31, .t 30], none, 255, 8⟩]
def c170_s1 : C := (.seq (.reg 2 (some ⟨false, [], 33⟩) l170_0) (.jn 25769803796 c170_3))
def l170_1 : List O := [o 17 (.fld 3) [.t 2] 0, ⟨some 18, .load false 1, [.t 17], none, 1, 1⟩, m 19 (.t 5) 2, o 20 (.load true 8) [.t 3] 3, ⟨some 21, .icall 167, [.t 20], none, 8, 4⟩, ⟨some 22, .ix 8, [.t 18, .t 19], none, 31, 5⟩, ⟨none, .store 8, [.t 22, .t 21], none, 63, 6⟩]
def c170_1 : C := (.seq (.reg 3 none [o 2 (.box 0) [.t 0] 0, o 3 (.box 1) [.t 1] 1, o 4 (.alloc 2 z0) [] 2]) (.seq (.reg 0 none [o 8 (.load true 4) [.t 2] 0, o 9 (.fld 0) [.t 3] 1, o 10 (.load false 1) [.t 9] 2, o 11 (.call 166) [.t 8, .t 10] 3, m 7 (.t 11) 4, o 12 (.ext 0) [.t 7] 5, o 13 (.ext 1) [.t 7] 6, m 5 (.t 12) 7, m 6 (.t 13) 8]) (.seq (.reg 0 none [o 14 (.load true 4) [.t 2] 0, o 15 (.icall 258) [.t 14] 1, ⟨none, .store 4, [.t 2, .t 15], none, 0, 2⟩]) (.seq (.seq (.reg 0 none [m 16 (.t 6) 0]) (.cond (.t 16) (.seq (.reg 0 (some ⟨false, [], 33⟩) l170_1) (.jn 17179869204 c170_2)) .skip)) c170_s1))))
def c170 : Fn := { fid := 170, np := 2, ntmps := 33, body := (.jn 8589934595 c170_1), res := [.cell 4 true 4] }
def L170 : Leaf := coldL c170
theorem kk170 : chkFn Go.Proofs.Tryz.prog ET 170 c170 = true := by kernel_rfl

def c171_1 : C := (.seq (.reg 2 none [o 3 (.box 0) [.t 0] 0, o 6 (.alloc 1 z1) [] 1]) (.seq (.reg 0 none [o 9 (.load true 8) [.t 3] 0, m 10 (.t 1) 1, o 11 (.icall 175) [.t 9, .t 10] 2, ⟨none, .store 8, [.t 3, .t 11], none, 0, 3⟩]) (.seq (.reg 0 none [o 13 (.load true 8) [.t 3] 0, m 14 (.t 1) 1, o 15 (.icall 10172) [.t 13, .t 14] 2, m 12 (.t 15) 3, o 16 (.ext 0) [.t 12] 4, o 17 (.ext 1) [.t 12] 5, m 7 (.t 16) 6, m 8 (.t 17) 7]) (.seq (.reg 2 none [o 18 (.fld 7) [.t 3] 0, o 19 (.load false 1) [.t 18] 1, m 20 (.t 7) 2, m 21 (.t 1) 3, m 22 (.t 2) 4, o 23 (.build z6 [(0, 1), (1, 1)]) [.t 21, .t 22] 5, o 24 (.bsa 0 2 z6 1 [0]) [.t 23] 6, o 25 (.insA 1 2 24) [.t 19, .t 20, .t 24] 7, o 26 (.fld 7) [.t 3] 8, ⟨none, .store 1, [.t 26, .t 25], none, 0, 9⟩]) (.seq (.reg 0 none [o 27 (.load true 8) [.t 3] 0, ⟨none, .store 8, [.t 6, .t 27], none, 0, 1⟩]) .ret)))))
def c171 : Fn := { fid := 171, np := 3, ntmps := 28, body := (.jn 268435463 c171_1), res := [.cell 6 true 8] }
def L171 : Leaf := coldL c171
theorem kk171 : chkFn Go.Proofs.Tryz.prog ET 171 c171 = true := by kernel_rfl

def c172 : Fn := { fid := 172, np := 2, ntmps := 12, body := (.seq (.reg 1 none [o 2 (.box 0) [.t 0] 0, m 4 (.c (ci 0)) 1, m 5 (.c cf) 2]) (.seq (.reg 0 none [o 6 (.fld 7) [.t 2] 0, o 7 (.load false 1) [.t 6] 1, m 8 (.t 1) 2, o 9 (.icall 261) [.t 7, .t 8, .c (.fn 262 [])] 3, o 10 (.ext 0) [.t 9] 4, o 11 (.ext 1) [.t 9] 5, m 4 (.t 10) 6, m 5 (.t 11) 7]) .ret)), res := [.tmp 4, .tmp 5] }
def b172_0 (c : Cx) (t0 t1 : V) (H : List Blk) : X := newK 1 H fun q H => (aBox (q + 0) t0).go H fun x1 H => p (aFld 7 x1) fun x2 => (aLoad false 1 x2).go H fun x3 H => icK c 261 [x3, t1, (.fn 262 [])] H fun x4 H => p (aExt 0 x4) fun x5 => p (aExt 1 x4) fun x6 => some (.tup [x5, x6], H)
def s172 (c : Cx) (args : List V) (H : List Blk) : X := argsK 2 args (b172_0 c (getT args 0) (getT args 1) H)
theorem e172 (pc ic n args H) : runK pc ic n c172 args H = s172 ⟨pc, ic, n⟩ args H := by
  unfold s172
  kernel_rfl
def L172 : Leaf := ⟨c172, fun pc ic n => s172 ⟨pc, ic, n⟩, e172⟩
theorem kk172 : chkFn Go.Proofs.Tryz.prog ET 172 c172 = true := by kernel_rfl

def c175_2 : C := (.seq (.reg 0 none [o 29 (.load true 8) [.t 2] 0, ⟨none, .store 8, [.t 4, .t 29], none, 0, 1⟩]) .ret)
def c175_1 : C := (.seq (.reg 2 none [o 2 (.box 0) [.t 0] 0, o 4 (.alloc 1 z1) [] 1]) (.seq (.reg 1 none [o 8 (.build z0 []) [] 0, o 9 (.load true 8) [.t 2] 1, o 10 (.icall 170) [.t 8, .t 9] 2, o 5 (.alloc 0 z0) [] 3, ⟨none, .store 4, [.t 5, .t 10], none, 0, 4⟩]) (.seq (.reg 0 none [o 11 (.fld 3) [.t 5] 0, o 12 (.load false 1) [.t 11] 1, o 13 (.ix 8) [.t 12, .c (ci 0)] 2, o 14 (.load true 8) [.t 13] 3, ⟨none, .store 8, [.t 2, .t 14], none, 0, 4⟩]) (.seq (.seq (.reg 0 none [o 16 (.load true 8) [.t 2] 0, m 17 (.t 1) 1, o 18 (.icall 10172) [.t 16, .t 17] 2, m 15 (.t 18) 3, o 19 (.ext 0) [.t 15] 4, o 20 (.ext 1) [.t 15] 5, m 6 (.t 19) 6, m 7 (.t 20) 7]) (.seq (.reg 0 none [m 21 (.t 7) 0]) (.cond (.t 21) (.reg 0 none [o 22 (.fld 7) [.t 2] 0, o 23 (.load false 1) [.t 22] 1, m 24 (.t 6) 2, m 25 (.t 6) 3, o 26 (.bin .add) [.t 25, .c (ci 1)] 4, o 27 (.icall 265) [.t 23, .t 24, .t 26] 5, o 28 (.fld 7) [.t 2] 6, ⟨none, .store 1, [.t 28, .t 27], none, 0, 7⟩]) .skip))) (.jn 2147483668 c175_2)))))
def c175 : Fn := { fid := 175, np := 2, ntmps := 30, body := (.jn 1073741827 c175_1), res := [.cell 4 true 8] }
def L175 : Leaf := coldL c175
theorem kk175 : chkFn Go.Proofs.Tryz.prog ET 175 c175 = true := by kernel_rfl

def c176_2 : C := (.seq (.reg 0 none [o 23 (.load true 4) [.t 2] 0, ⟨none, .store 4, [.t 4, .t 23], none, 0, 1⟩]) .ret)
def c176_1 : C := (.seq (.reg 2 none [o 2 (.box 0) [.t 0] 0, o 4 (.alloc 1 z0) [] 1]) (.seq (.reg 0 none [o 8 (.load true 4) [.t 2] 0, m 9 (.t 1) 1, o 10 (.call 166) [.t 8, .t 9] 2, m 7 (.t 10) 3, o 11 (.ext 0) [.t 7] 4, o 12 (.ext 1) [.t 7] 5, m 5 (.t 11) 6, m 6 (.t 12) 7]) (.seq (.reg 0 none [o 13 (.load true 4) [.t 2] 0, o 14 (.icall 258) [.t 13] 1, ⟨none, .store 4, [.t 2, .t 14], none, 0, 2⟩]) (.seq (.seq (.reg 0 none [m 15 (.t 6) 0]) (.cond (.t 15) (.reg 0 none [o 16 (.fld 3) [.t 2] 0, o 17 (.load false 1) [.t 16] 1, m 18 (.t 5) 2, m 19 (.t 5) 3, o 20 (.bin .add) [.t 19, .c (ci 1)] 4, o 21 (.icall 266) [.t 17, .t 18, .t 20] 5, o 22 (.fld 3) [.t 2] 6, ⟨none, .store 1, [.t 22, .t 21], none, 0, 7⟩]) .skip)) (.jn 33554452 c176_2)))))
def c176 : Fn := { fid := 176, np := 2, ntmps := 24, body := (.jn 16777219 c176_1), res := [.cell 4 true 4] }
def L176 : Leaf := coldL c176
theorem kk176 : chkFn Go.Proofs.Tryz.prog ET 176 c176 = true := by kernel_rfl

def c177 : Fn := { fid := 177, np := 2, ntmps := 8, body := (.seq (.reg 1 none [o 2 (.box 0) [.t 0] 0, m 3 (.c cf) 1]) (.seq (.reg 0 none [o 4 (.fld 0) [.t 2] 0, o 5 (.load true 2) [.t 4] 1, o 6 (.load true 2) [.t 1] 2, o 7 (.beq false [0, 0]) [.t 5, .t 6] 3, m 3 (.t 7) 4]) .ret)), res := [.tmp 3] }
def L177 : Leaf := coldL c177
theorem kk177 : chkFn Go.Proofs.Tryz.prog ET 177 c177 = true := by kernel_rfl

def c179_1 : C := (.seq (.reg 1 none [o 3 (.box 0) [.t 0] 0, m 6 (.c cf) 1]) (.seq (.reg 1 none [o 12 (.load true 4) [.t 3] 0, m 13 (.t 1) 1, o 14 (.call 85) [.t 12, .t 13] 2, m 11 (.t 14) 3, o 15 (.ext 0) [.t 11] 4, o 16 (.ext 1) [.t 11] 5, o 7 (.alloc 0 z1) [] 6, ⟨none, .store 8, [.t 7, .t 15], none, 0, 7⟩, m 8 (.t 16) 8]) (.seq (.reg 0 none [o 18 (.load true 8) [.t 7] 0, m 19 (.t 2) 1, o 20 (.call 90) [.t 18, .t 19] 2, m 17 (.t 20) 3, o 21 (.ext 0) [.t 17] 4, o 22 (.ext 1) [.t 17] 5, m 9 (.t 21) 6, m 10 (.t 22) 7]) (.seq (.reg 0 none [m 23 (.t 10) 0, m 24 (.t 23) 1, ⟨some 25, .fld 1, [.t 7], some (24, true), 0, 2⟩, ⟨some 26, .load false 1, [.t 25], some (24, true), 0, 3⟩, ⟨some 27, .bin .eql, [.t 26, .c (ci 2)], some (24, true), 0, 4⟩, o 28 .pick [.t 24, .t 27, .c cf] 5, m 6 (.t 28) 6]) .ret))))
def c179 : Fn := { fid := 179, np := 3, ntmps := 29, body := (.jn 536870919 c179_1), res := [.tmp 6] }
def L179 : Leaf := coldL c179
theorem kk179 : chkFn Go.Proofs.Tryz.prog ET 179 c179 = true := by kernel_rfl

def c180_1 : C := (.seq (.reg 2 none [o 2 (.box 0) [.t 0] 0, o 3 (.box 1) [.t 1] 1, m 4 (.c cf) 2]) (.seq (.reg 0 (some ⟨true, [], 21⟩) [o 5 (.fld 0) [.t 2] 0, ⟨some 6, .load true 2, [.t 5], none, 1, 1⟩, o 7 (.fld 0) [.t 3] 2, ⟨some 8, .load false 1, [.t 7], none, 4, 3⟩, ⟨some 9, .call 268, [.t 6, .t 8], none, 15, 4⟩, ⟨some 10, .mov, [.t 9], none, 31, 5⟩, ⟨some 11, .fld 2, [.t 2], some (10, true), 63, 6⟩, ⟨some 12, .load false 1, [.t 11], some (10, true), 127, 7⟩, ⟨some 13, .fld 0, [.t 3], some (10, true), 63, 8⟩, ⟨some 14, .load false 1, [.t 13], some (10, true), 319, 9⟩, ⟨some 15, .ix 4, [.t 12, .t 14], some (10, true), 1023, 10⟩, ⟨some 16, .load true 4, [.t 15], some (10, true), 2047, 11⟩, ⟨some 17, .fld 1, [.t 3], some (10, true), 63, 12⟩, ⟨some 18, .load false 1, [.t 17], some (10, true), 4159, 13⟩, ⟨some 19, .call 269, [.t 16, .t 18], some (10, true), 16383, 14⟩, ⟨some 20, .pick, [.t 10, .t 19, .c cf], none, 32767, 15⟩, ⟨some 4, .mov, [.t 20], none, 65535, 16⟩]) .ret))
def c180 : Fn := { fid := 180, np := 2, ntmps := 21, body := (.jn 2097155 c180_1), res := [.tmp 4] }
def d180_1 (c : Cx) (t0 t1 : V) (H : List Blk) : X := stepK c.pc c.ic c.n (.jn 2097155 c180_1) (cn 0 21 [(0, t0), (1, t1)]) H (kTop c180.res)
def b180_1 (c : Cx) (t0 t1 : V) (H : List Blk) : X := newK 2 H fun q H => (aBox (q + 0) t0).go H fun x1 H => (aBox (q + 1) t1).go H fun x2 H => p (aFld 0 x1) fun x3 => (aLoad true 2 x3).go H fun x4 H => p (aFld 0 x2) fun x5 => (fun (x1 x2 x4 x5 : V) (H : L) (c : Cx) => (aLoad false 1 x5).go H fun x6 H => p (aCall c.pc 268 [x4, x6]) fun x7 => guardK x7 true (fun k => (aFld 2 x1).go H k) H fun x8 H => guardK x7 true (fun k => (aLoad false 1 x8).go H k) H fun x9 H => (fun (x2 x7 x9 : V) (H : L) (c : Cx) => guardK x7 true (fun k => (aFld 0 x2).go H k) H fun x10 H => guardK x7 true (fun k => (aLoad false 1 x10).go H k) H fun x11 H => guardK x7 true (fun k => (aIx 4 x9 x11).go H k) H fun x12 H => guardK x7 true (fun k => (aLoad true 4 x12).go H k) H fun x13 H => (fun (x2 x7 x13 : V) (H : L) (c : Cx) => guardK x7 true (fun k => (aFld 1 x2).go H k) H fun x14 H => guardK x7 true (fun k => (aLoad false 1 x14).go H k) H fun x15 H => guardK x7 true (fun k => (aCall c.pc 269 [x13, x15]).go H k) H fun x16 H => p (aPick x7 x16 cf) fun x17 => some (x17, H)) x2 x7 x13 H c) x2 x7 x9 H c) x1 x2 x4 x5 H c
def j180_1 (c : Cx) : F2 := b180_1 c
theorem o180_1 (c : Cx) : d180_1 c = j180_1 c := by
  unfold j180_1
  funext t0 t1 H
  refine Eq.trans (stepK_jn c.pc c.ic c.n _ H _ 2097155 c180_1) ?_
  kernel_rfl
def b180_0 (c : Cx) (j1 : F2) (t0 t1 : V) (H : List Blk) : X := j1 t0 t1 H
def s180 (c : Cx) (args : List V) (H : List Blk) : X := argsK 2 args (b180_0 c (j180_1 c) (getT args 0) (getT args 1) H)
theorem e180 (pc ic n args H) : runK pc ic n c180 args H = s180 ⟨pc, ic, n⟩ args H := by
  unfold s180; rw [← o180_1]
  kernel_rfl
def L180 : Leaf := ⟨c180, fun pc ic n => s180 ⟨pc, ic, n⟩, e180⟩
theorem kk180 : chkFn Go.Proofs.Tryz.prog ET 180 c180 = true := by kernel_rfl

def c181_1 : C := (.seq (.reg 2 none [o 3 (.box 0) [.t 0] 0, o 4 (.box 1) [.t 1] 1, m 6 (.c cf) 2]) (.seq (.reg 0 (some ⟨true, [], 24⟩) [o 7 (.fld 0) [.t 3] 0, ⟨some 8, .load true 2, [.t 7], none, 1, 1⟩, o 9 (.fld 0) [.t 4] 2, ⟨some 10, .load false 1, [.t 9], none, 4, 3⟩, ⟨some 11, .call 268, [.t 8, .t 10], none, 15, 4⟩, ⟨some 12, .mov, [.t 11], none, 31, 5⟩, ⟨some 13, .fld 2, [.t 3], some (12, true), 63, 6⟩, ⟨some 14, .load false 1, [.t 13], some (12, true), 127, 7⟩, ⟨some 15, .fld 0, [.t 4], some (12, true), 63, 8⟩, ⟨some 16, .load false 1, [.t 15], some (12, true), 319, 9⟩, ⟨some 17, .ix 4, [.t 14, .t 16], some (12, true), 1023, 10⟩, ⟨some 18, .load true 4, [.t 17], some (12, true), 2047, 11⟩, ⟨some 19, .fld 1, [.t 4], some (12, true), 63, 12⟩, ⟨some 20, .load false 1, [.t 19], some (12, true), 4159, 13⟩, ⟨some 21, .mov, [.t 2], some (12, true), 63, 14⟩, ⟨some 22, .call 225, [.t 18, .t 20, .t 21], some (12, true), 32767, 15⟩, ⟨some 23, .pick, [.t 12, .t 22, .c cf], none, 65535, 16⟩, ⟨some 6, .mov, [.t 23], none, 131071, 17⟩]) .ret))
def c181 : Fn := { fid := 181, np := 3, ntmps := 24, body := (.jn 16777223 c181_1), res := [.tmp 6] }
def d181_1 (c : Cx) (t0 t1 t2 : V) (H : List Blk) : X := stepK c.pc c.ic c.n (.jn 16777223 c181_1) (cn 0 24 [(0, t0), (1, t1), (2, t2)]) H (kTop c181.res)
def b181_1 (c : Cx) (t0 t1 t2 : V) (H : List Blk) : X := newK 2 H fun q H => (aBox (q + 0) t0).go H fun x1 H => (aBox (q + 1) t1).go H fun x2 H => p (aFld 0 x1) fun x3 => (aLoad true 2 x3).go H fun x4 H => p (aFld 0 x2) fun x5 => (aLoad false 1 x5).go H fun x6 H => (fun (t2 x1 x2 x4 x6 : V) (H : L) (c : Cx) => p (aCall c.pc 268 [x4, x6]) fun x7 => guardK x7 true (fun k => (aFld 2 x1).go H k) H fun x8 H => guardK x7 true (fun k => (aLoad false 1 x8).go H k) H fun x9 H => guardK x7 true (fun k => (aFld 0 x2).go H k) H fun x10 H => (fun (t2 x2 x7 x9 x10 : V) (H : L) (c : Cx) => guardK x7 true (fun k => (aLoad false 1 x10).go H k) H fun x11 H => guardK x7 true (fun k => (aIx 4 x9 x11).go H k) H fun x12 H => guardK x7 true (fun k => (aLoad true 4 x12).go H k) H fun x13 H => guardK x7 true (fun k => (aFld 1 x2).go H k) H fun x14 H => (fun (t2 x7 x13 x14 : V) (H : L) (c : Cx) => guardK x7 true (fun k => (aLoad false 1 x14).go H k) H fun x15 H => guardK x7 true (fun k => (aMov t2).go H k) H fun x16 H => guardK x7 true (fun k => (aCall c.pc 225 [x13, x15, x16]).go H k) H fun x17 H => p (aPick x7 x17 cf) fun x18 => some (x18, H)) t2 x7 x13 x14 H c) t2 x2 x7 x9 x10 H c) t2 x1 x2 x4 x6 H c
def j181_1 (c : Cx) : F3 := b181_1 c
theorem o181_1 (c : Cx) : d181_1 c = j181_1 c := by
  unfold j181_1
  funext t0 t1 t2 H
  refine Eq.trans (stepK_jn c.pc c.ic c.n _ H _ 16777223 c181_1) ?_
  kernel_rfl
def b181_0 (c : Cx) (j1 : F3) (t0 t1 t2 : V) (H : List Blk) : X := j1 t0 t1 t2 H
def s181 (c : Cx) (args : List V) (H : List Blk) : X := argsK 3 args (b181_0 c (j181_1 c) (getT args 0) (getT args 1) (getT args 2) H)
theorem e181 (pc ic n args H) : runK pc ic n c181 args H = s181 ⟨pc, ic, n⟩ args H := by
  unfold s181; rw [← o181_1]
  kernel_rfl
def L181 : Leaf := ⟨c181, fun pc ic n => s181 ⟨pc, ic, n⟩, e181⟩
theorem kk181 : chkFn Go.Proofs.Tryz.prog ET 181 c181 = true := by kernel_rfl

def c182_2 : C := (.seq (.seq (.reg 0 none [m 7 (.t 6) 0, o 8 (.fld 3) [.t 2] 1, o 9 (.load false 1) [.t 8] 2, o 10 (.len 1) [.t 9] 3, o 11 (.bin .lss) [.t 7, .t 10] 4]) (.cond (.t 11) .skip (.exit 0))) (.seq (.blk 1 (.seq (.reg 0 none [o 14 (.fld 3) [.t 2] 0, o 15 (.load false 1) [.t 14] 1, m 16 (.t 6) 2, o 17 (.ix 8) [.t 15, .t 16] 3, o 18 (.fld 0) [.t 17] 4, o 19 (.load false 1) [.t 18] 5, m 20 (.t 1) 6, o 21 (.bin .neq) [.t 19, .t 20] 7]) (.cond (.t 21) (.reg 1 none [m 22 (.t 5) 0, o 23 (.fld 3) [.t 2] 1, o 24 (.load false 1) [.t 23] 2, m 25 (.t 6) 3, o 26 (.ix 8) [.t 24, .t 25] 4, o 27 (.load true 8) [.t 26] 5, o 28 (.bsl 8 z3 1 [0]) [.t 27] 6, o 29 (.app 0 8 104) [.t 22, .t 28] 7, m 5 (.t 29) 8]) .skip))) (.reg 0 none [m 12 (.t 6) 0, o 13 (.bin .add) [.t 12, .c (ci 1)] 1, m 6 (.t 13) 2])))
def c182_s1 : C := (.seq (.reg 0 none [m 30 (.t 5) 0, o 31 (.fld 3) [.t 2] 1, ⟨none, .store 1, [.t 31, .t 30], none, 0, 2⟩]) (.seq (.reg 0 none [o 32 (.load true 4) [.t 2] 0, ⟨none, .store 4, [.t 4, .t 32], none, 0, 1⟩]) .ret))
def c182_1 : C := (.seq (.reg 2 none [o 2 (.box 0) [.t 0] 0, o 4 (.alloc 1 z0) [] 1]) (.seq (.reg 0 none [m 5 (.c .nilS) 0]) (.seq (.seq (.reg 0 none [m 6 (.c (ci 0)) 0]) (.blk 0 (.loop 17179869302 false c182_2))) c182_s1)))
def c182 : Fn := { fid := 182, np := 2, ntmps := 33, body := (.jn 8589934595 c182_1), res := [.cell 4 true 4] }
def d182_1 (c : Cx) (t0 t1 : V) (H : List Blk) : X := stepK c.pc c.ic c.n (.jn 8589934595 c182_1) (cn 0 33 [(0, t0), (1, t1)]) H (kTop c182.res)
def k182_1 (c : Cx) : KT := thenK (stepK c.pc c.ic c.n c182_s1) (kTop c182.res)
def k182_2 (c : Cx) : KT := blkK 0 (k182_1 c)
def d182_2 (c : Cx) (m n2 : Nat) (t1 t2 t4 t5 t6 : V) (H : List Blk) : X := jnK (loopsK (stepK c.pc c.ic c.n c182_2) 17179869302 false n2 m) (cn 0 33 [(1, t1), (2, t2), (4, t4), (5, t5), (6, t6)]) H (k182_2 c) 17179869302
def b182_2 (c : Cx) (r2 : F5) (n2 : Nat) (t1 t2 t4 t5 t6 : V) (H : List Blk) : X := p (aFld 3 t2) fun x1 => (aLoad false 1 x1).go H fun x2 H => (aLen 1 x2).go H fun x3 H => p (aBin .lss t6 x3) fun x4 => condK x4 ((fun (t1 t2 t4 t5 t6 : V) (H : L) (r2 : F5) => p (aFld 3 t2) fun x5 => (aLoad false 1 x5).go H fun x6 H => (fun (t1 t2 t4 t5 t6 x6 : V) (H : L) (r2 : F5) => p (aIx 8 x6 t6) fun x7 => p (aFld 0 x7) fun x8 => (aLoad false 1 x8).go H fun x9 H => p (aBin .neq x9 t1) fun x10 => condK x10 ((fun (t1 t2 t4 t5 t6 : V) (H : L) (r2 : F5) => newK 1 H fun q H => p (aFld 3 t2) fun x11 => (aLoad false 1 x11).go H fun x12 H => (fun (t1 t2 t4 t5 t6 x12 : V) (q : Nat) (H : L) (r2 : F5) => p (aIx 8 x12 t6) fun x13 => (aLoad true 8 x13).go H fun x14 H => p (aBsl 8 z3 1 [0] [x14]) fun x15 => (aApp (q + 0) 8 104 t5 x15).go H fun x16 H => p (aBin .add t6 (ci 1)) fun x17 => r2 t1 t2 t4 x16 x17 H) t1 t2 t4 t5 t6 x12 q H r2) t1 t2 t4 t5 t6 H r2) (p (aBin .add t6 (ci 1)) fun x18 => r2 t1 t2 t4 t5 x18 H)) t1 t2 t4 t5 t6 x6 H r2) t1 t2 t4 t5 t6 H r2) ((fun (t2 t4 t5 : V) (H : L) => p (aFld 3 t2) fun x19 => (aStore 1 x19 t5).go H fun _ H => (aLoad true 4 t2).go H fun x20 H => (aStore 4 t4 x20).go H fun _ H => bnd (loadV true 4 t4 H) fun x21 => some (x21, H)) t2 t4 t5 H)
def j182_2 (c : Cx) : Nat → Nat → F5 := recN (fun _ _ _ _ _ _ _ => none) fun ih n2 => b182_2 c (ih n2) n2
theorem o182_2 (c : Cx) : d182_2 c = j182_2 c := by
  unfold j182_2
  refine recN_ok (by kernel_rfl) fun m => funext fun n2 => ?_
  funext t1 t2 t4 t5 t6 H
  refine Eq.trans (jnK_eq 17179869302 _ _ H _) ?_
  kernel_rfl
def b182_1 (c : Cx) (j2 : Nat → Nat → F5) (t0 t1 : V) (H : List Blk) : X := newK 2 H fun q H => (aBox (q + 0) t0).go H fun x1 H => (aAlloc (q + 1) z0).go H fun x2 H => j2 c.n H.length t1 x1 x2 .nilS (ci 0) H
def j182_1 (c : Cx) : F2 := b182_1 c (j182_2 c)
theorem o182_1 (c : Cx) : d182_1 c = j182_1 c := by
  unfold j182_1; rw [← o182_2]
  funext t0 t1 H
  refine Eq.trans (stepK_jn c.pc c.ic c.n _ H _ 8589934595 c182_1) ?_
  kernel_rfl
def b182_0 (c : Cx) (j1 : F2) (t0 t1 : V) (H : List Blk) : X := j1 t0 t1 H
def s182 (c : Cx) (args : List V) (H : List Blk) : X := argsK 2 args (b182_0 c (j182_1 c) (getT args 0) (getT args 1) H)
theorem e182 (pc ic n args H) : runK pc ic n c182 args H = s182 ⟨pc, ic, n⟩ args H := by
  unfold s182; rw [← o182_1]
  kernel_rfl
def L182 : Leaf := ⟨c182, fun pc ic n => s182 ⟨pc, ic, n⟩, e182⟩
theorem kk182 : chkFn Go.Proofs.Tryz.prog ET 182 c182 = true := by kernel_rfl

def c183 : Fn := { fid := 183, np := 1, ntmps := 11, body := (.seq (.reg 0 none [m 2 (.c cf) 0]) (.seq (.reg 0 none [m 3 (.t 0) 0, o 4 (.len 0) [.t 3] 1, o 5 (.bin .geq) [.t 4, .c (ci 4)] 2, m 6 (.t 5) 3, ⟨some 7, .mov, [.t 0], some (6, true), 0, 4⟩, ⟨some 8, .subStr false true, [.t 7, .c (ci 4)], some (6, true), 0, 5⟩, ⟨some 9, .bin .eql, [.t 8, .c (.d (.str [46, 119, 104, 46]))], some (6, true), 0, 6⟩, o 10 .pick [.t 6, .t 9, .c cf] 7, m 2 (.t 10) 8]) .ret)), res := [.tmp 2] }
def b183_0 (c : Cx) (t0 : V) (H : List Blk) : X := (aLen 0 t0).go H fun x1 H => p (aBin .geq x1 (ci 4)) fun x2 => (fun (t0 x2 : V) (H : L) => guardK x2 true (fun k => (aMov t0).go H k) H fun x3 H => guardK x2 true (fun k => (aSubStr false true x3 [(ci 4)]).go H k) H fun x4 H => guardK x2 true (fun k => (aBin .eql x4 (.d (.str [46, 119, 104, 46]))).go H k) H fun x5 H => p (aPick x2 x5 cf) fun x6 => some (x6, H)) t0 x2 H
def s183 (c : Cx) (args : List V) (H : List Blk) : X := argsK 1 args (b183_0 c (getT args 0) H)
theorem e183 (pc ic n args H) : runK pc ic n c183 args H = s183 ⟨pc, ic, n⟩ args H := by
  unfold s183
  kernel_rfl
def L183 : Leaf := ⟨c183, fun pc ic n => s183 ⟨pc, ic, n⟩, e183⟩
theorem kk183 : chkFn Go.Proofs.Tryz.prog ET 183 c183 = true := by kernel_rfl

def c184_2 : C := (.seq (.seq (.reg 0 none [m 6 (.t 5) 0, m 7 (.t 0) 1, o 8 (.len 1) [.t 7] 2, o 9 (.bin .lss) [.t 6, .t 8] 3, m 10 (.t 9) 4, ⟨some 11, .mov, [.t 0], some (10, true), 0, 5⟩, ⟨some 12, .mov, [.t 5], some (10, true), 0, 6⟩, ⟨some 13, .ix 1, [.t 11, .t 12], some (10, true), 0, 7⟩, ⟨some 14, .load false 1, [.t 13], some (10, true), 0, 8⟩, ⟨some 15, .mov, [.t 1], some (10, true), 0, 9⟩, ⟨some 16, .bin .lss, [.t 14, .t 15], some (10, true), 0, 10⟩, o 17 .pick [.t 10, .t 16, .c cf] 11]) (.cond (.t 17) .skip (.exit 0))) (.blk 1 (.reg 0 none [m 18 (.t 5) 0, o 19 (.bin .add) [.t 18, .c (ci 1)] 1, m 5 (.t 19) 2])))
def l184_0 : List O := [o 33 (.bsl 1 [(.str [])] 0 []) [] 0, m 34 (.t 0) 1, m 35 (.t 5) 2, ⟨some 36, .sub 1 false true false, [.t 34, .t 35], none, 6, 3⟩, ⟨some 37, .app 0 1 16, [.t 33, .t 36], none, 15, 4⟩, m 38 (.t 1) 5, ⟨some 39, .bsl 1 [(.str [])] 1 [0], [.t 38], none, 32, 6⟩, ⟨some 40, .app 1 1 16, [.t 37, .t 39], none, 127, 7⟩, m 41 (.t 0) 8, m 42 (.t 5) 9, ⟨some 43, .sub 1 true false false, [.t 41, .t 42], none, 768, 10⟩, ⟨some 44, .app 2 1 16, [.t 40, .t 43], none, 2047, 11⟩, ⟨some 4, .mov, [.t 44], none, 4095, 12⟩]
def c184_s1 : C := (.seq (.seq (.reg 0 none [m 20 (.t 5) 0, m 21 (.t 0) 1, o 22 (.len 1) [.t 21] 2, o 23 (.bin .lss) [.t 20, .t 22] 3, m 24 (.t 23) 4, ⟨some 25, .mov, [.t 0], some (24, true), 0, 5⟩, ⟨some 26, .mov, [.t 5], some (24, true), 0, 6⟩, ⟨some 27, .ix 1, [.t 25, .t 26], some (24, true), 0, 7⟩, ⟨some 28, .load false 1, [.t 27], some (24, true), 0, 8⟩, ⟨some 29, .mov, [.t 1], some (24, true), 0, 9⟩, ⟨some 30, .bin .eql, [.t 28, .t 29], some (24, true), 0, 10⟩, o 31 .pick [.t 24, .t 30, .c cf] 11]) (.cond (.t 31) (.seq (.reg 0 none [m 32 (.t 0) 0, m 4 (.t 32) 1]) .ret) .skip)) (.seq (.reg 3 (some ⟨false, [], 45⟩) l184_0) .ret))
def c184_1 : C := (.seq (.reg 0 none [m 4 (.c .nilS) 0]) (.seq (.reg 0 none [m 5 (.c (ci 0)) 0]) (.seq (.blk 0 (.loop 70368744177699 false c184_2)) c184_s1)))
def c184 : Fn := { fid := 184, np := 2, ntmps := 45, body := (.jn 35184372088835 c184_1), res := [.tmp 4] }
def d184_1 (c : Cx) (t0 t1 : V) (H : List Blk) : X := stepK c.pc c.ic c.n (.jn 35184372088835 c184_1) (cn 0 45 [(0, t0), (1, t1)]) H (kTop c184.res)
def k184_1 (c : Cx) : KT := thenK (stepK c.pc c.ic c.n c184_s1) (kTop c184.res)
def k184_2 (c : Cx) : KT := blkK 0 (k184_1 c)
def d184_2 (c : Cx) (m n2 : Nat) (t0 t1 t5 : V) (H : List Blk) : X := jnK (loopsK (stepK c.pc c.ic c.n c184_2) 70368744177699 false n2 m) (cn 0 45 [(0, t0), (1, t1), (5, t5)]) H (k184_2 c) 70368744177699
def b184_2 (c : Cx) (r2 : F3) (n2 : Nat) (t0 t1 t5 : V) (H : List Blk) : X := (aLen 1 t0).go H fun x1 H => (fun (t0 t1 t5 x1 : V) (H : L) (c : Cx) (r2 : F3) => p (aBin .lss t5 x1) fun x2 => guardK x2 true (fun k => (aMov t0).go H k) H fun x3 H => guardK x2 true (fun k => (aMov t5).go H k) H fun x4 H => guardK x2 true (fun k => (aIx 1 x3 x4).go H k) H fun x5 H => (fun (t0 t1 t5 x1 x2 x3 x4 x5 : V) (H : L) (c : Cx) (r2 : F3) => guardK x2 true (fun k => (aLoad false 1 x5).go H k) H fun x6 H => guardK x2 true (fun k => (aMov t1).go H k) H fun x7 H => guardK x2 true (fun k => (aBin .lss x6 x7).go H k) H fun x8 H => p (aPick x2 x8 cf) fun x9 => condK x9 (p (aBin .add t5 (ci 1)) fun x10 => r2 t0 t1 x10 H) ((fun (t0 t1 t5 x1 x2 x3 x4 x5 x6 x7 x8 x9 : V) (H : L) (c : Cx) => (aLen 1 t0).go H fun x11 H => (fun (t0 t1 t5 x1 x2 x3 x4 x5 x6 x7 x8 x9 x11 : V) (H : L) (c : Cx) => p (aBin .lss t5 x11) fun x12 => guardK x12 true (fun k => (aMov t0).go H k) H fun x13 H => guardK x12 true (fun k => (aMov t5).go H k) H fun x14 H => guardK x12 true (fun k => (aIx 1 x13 x14).go H k) H fun x15 H => (fun (t0 t1 t5 x1 x2 x3 x4 x5 x6 x7 x8 x9 x11 x12 x13 x14 x15 : V) (H : L) (c : Cx) => guardK x12 true (fun k => (aLoad false 1 x15).go H k) H fun x16 H => guardK x12 true (fun k => (aMov t1).go H k) H fun x17 H => guardK x12 true (fun k => (aBin .eql x16 x17).go H k) H fun x18 H => p (aPick x12 x18 cf) fun x19 => condK x19 (some (t0, H)) ((fun (t0 t1 t5 x1 x2 x3 x4 x5 x6 x7 x8 x9 x11 x12 x13 x14 x15 x16 x17 x18 x19 : V) (H : L) (c : Cx) => newK 3 H fun q H => drawnK c.pc c.ic l184_0 q (cn 0 45 [(0, t0), (1, t1), (5, t5), (6, t5), (7, t0), (8, x1), (9, x2), (10, x2), (11, x3), (12, x4), (13, x5), (14, x6), (15, x7), (16, x8), (17, x9), (20, t5), (21, t0), (22, x11), (23, x12), (24, x12), (25, x13), (26, x14), (27, x15), (28, x16), (29, x17), (30, x18), (31, x19)]) H fun ts19 H => some ((getT ts19 4), H)) t0 t1 t5 x1 x2 x3 x4 x5 x6 x7 x8 x9 x11 x12 x13 x14 x15 x16 x17 x18 x19 H c)) t0 t1 t5 x1 x2 x3 x4 x5 x6 x7 x8 x9 x11 x12 x13 x14 x15 H c) t0 t1 t5 x1 x2 x3 x4 x5 x6 x7 x8 x9 x11 H c) t0 t1 t5 x1 x2 x3 x4 x5 x6 x7 x8 x9 H c)) t0 t1 t5 x1 x2 x3 x4 x5 H c r2) t0 t1 t5 x1 H c r2
def j184_2 (c : Cx) : Nat → Nat → F3 := recN (fun _ _ _ _ _ => none) fun ih n2 => b184_2 c (ih n2) n2
theorem o184_2 (c : Cx) : d184_2 c = j184_2 c := by
  unfold j184_2
  refine recN_ok (by kernel_rfl) fun m => funext fun n2 => ?_
  funext t0 t1 t5 H
  refine Eq.trans (jnK_eq 70368744177699 _ _ H _) ?_
  kernel_rfl
def b184_1 (c : Cx) (j2 : Nat → Nat → F3) (t0 t1 : V) (H : List Blk) : X := j2 c.n H.length t0 t1 (ci 0) H
def j184_1 (c : Cx) : F2 := b184_1 c (j184_2 c)
theorem o184_1 (c : Cx) : d184_1 c = j184_1 c := by
  unfold j184_1; rw [← o184_2]
  funext t0 t1 H
  refine Eq.trans (stepK_jn c.pc c.ic c.n _ H _ 35184372088835 c184_1) ?_
  kernel_rfl
def b184_0 (c : Cx) (j1 : F2) (t0 t1 : V) (H : List Blk) : X := j1 t0 t1 H
def s184 (c : Cx) (args : List V) (H : List Blk) : X := argsK 2 args (b184_0 c (j184_1 c) (getT args 0) (getT args 1) H)
theorem e184 (pc ic n args H) : runK pc ic n c184 args H = s184 ⟨pc, ic, n⟩ args H := by
  unfold s184; rw [← o184_1]
  kernel_rfl
def L184 : Leaf := ⟨c184, fun pc ic n => s184 ⟨pc, ic, n⟩, e184⟩
theorem kk184 : chkFn Go.Proofs.Tryz.prog ET 184 c184 = true := by kernel_rfl

def c185_2 : C := (.seq (.seq (.reg 0 none [m 7 (.t 6) 0, o 8 (.fld 7) [.t 2] 1, o 9 (.load false 1) [.t 8] 2, o 10 (.len 1) [.t 9] 3, o 11 (.bin .lss) [.t 7, .t 10] 4]) (.cond (.t 11) .skip (.exit 0))) (.seq (.blk 1 (.seq (.reg 0 none [o 14 (.fld 7) [.t 2] 0, o 15 (.load false 1) [.t 14] 1, m 16 (.t 6) 2, o 17 (.ix 2) [.t 15, .t 16] 3, o 18 (.fld 0) [.t 17] 4, o 19 (.load false 1) [.t 18] 5, m 20 (.t 1) 6, o 21 (.bin .neq) [.t 19, .t 20] 7]) (.cond (.t 21) (.reg 1 none [m 22 (.t 5) 0, o 23 (.fld 7) [.t 2] 1, o 24 (.load false 1) [.t 23] 2, m 25 (.t 6) 3, o 26 (.ix 2) [.t 24, .t 25] 4, o 27 (.load true 2) [.t 26] 5, o 28 (.bsl 2 z5 1 [0]) [.t 27] 6, o 29 (.app 0 2 24) [.t 22, .t 28] 7, m 5 (.t 29) 8]) .skip))) (.reg 0 none [m 12 (.t 6) 0, o 13 (.bin .add) [.t 12, .c (ci 1)] 1, m 6 (.t 13) 2])))
def c185_s1 : C := (.seq (.reg 0 none [m 30 (.t 5) 0, o 31 (.fld 7) [.t 2] 1, ⟨none, .store 1, [.t 31, .t 30], none, 0, 2⟩]) (.seq (.reg 0 none [o 32 (.load true 8) [.t 2] 0, ⟨none, .store 8, [.t 4, .t 32], none, 0, 1⟩]) .ret))
def c185_1 : C := (.seq (.reg 2 none [o 2 (.box 0) [.t 0] 0, o 4 (.alloc 1 z1) [] 1]) (.seq (.reg 0 none [m 5 (.c .nilS) 0]) (.seq (.seq (.reg 0 none [m 6 (.c (ci 0)) 0]) (.blk 0 (.loop 17179869302 false c185_2))) c185_s1)))
def c185 : Fn := { fid := 185, np := 2, ntmps := 33, body := (.jn 8589934595 c185_1), res := [.cell 4 true 8] }
def d185_1 (c : Cx) (t0 t1 : V) (H : List Blk) : X := stepK c.pc c.ic c.n (.jn 8589934595 c185_1) (cn 0 33 [(0, t0), (1, t1)]) H (kTop c185.res)
def k185_1 (c : Cx) : KT := thenK (stepK c.pc c.ic c.n c185_s1) (kTop c185.res)
def k185_2 (c : Cx) : KT := blkK 0 (k185_1 c)
def d185_2 (c : Cx) (m n2 : Nat) (t1 t2 t4 t5 t6 : V) (H : List Blk) : X := jnK (loopsK (stepK c.pc c.ic c.n c185_2) 17179869302 false n2 m) (cn 0 33 [(1, t1), (2, t2), (4, t4), (5, t5), (6, t6)]) H (k185_2 c) 17179869302
def b185_2 (c : Cx) (r2 : F5) (n2 : Nat) (t1 t2 t4 t5 t6 : V) (H : List Blk) : X := p (aFld 7 t2) fun x1 => (aLoad false 1 x1).go H fun x2 H => (aLen 1 x2).go H fun x3 H => p (aBin .lss t6 x3) fun x4 => condK x4 ((fun (t1 t2 t4 t5 t6 : V) (H : L) (r2 : F5) => p (aFld 7 t2) fun x5 => (aLoad false 1 x5).go H fun x6 H => (fun (t1 t2 t4 t5 t6 x6 : V) (H : L) (r2 : F5) => p (aIx 2 x6 t6) fun x7 => p (aFld 0 x7) fun x8 => (aLoad false 1 x8).go H fun x9 H => p (aBin .neq x9 t1) fun x10 => condK x10 ((fun (t1 t2 t4 t5 t6 : V) (H : L) (r2 : F5) => newK 1 H fun q H => p (aFld 7 t2) fun x11 => (aLoad false 1 x11).go H fun x12 H => (fun (t1 t2 t4 t5 t6 x12 : V) (q : Nat) (H : L) (r2 : F5) => p (aIx 2 x12 t6) fun x13 => (aLoad true 2 x13).go H fun x14 H => p (aBsl 2 z5 1 [0] [x14]) fun x15 => (aApp (q + 0) 2 24 t5 x15).go H fun x16 H => p (aBin .add t6 (ci 1)) fun x17 => r2 t1 t2 t4 x16 x17 H) t1 t2 t4 t5 t6 x12 q H r2) t1 t2 t4 t5 t6 H r2) (p (aBin .add t6 (ci 1)) fun x18 => r2 t1 t2 t4 t5 x18 H)) t1 t2 t4 t5 t6 x6 H r2) t1 t2 t4 t5 t6 H r2) ((fun (t2 t4 t5 : V) (H : L) => p (aFld 7 t2) fun x19 => (aStore 1 x19 t5).go H fun _ H => (aLoad true 8 t2).go H fun x20 H => (aStore 8 t4 x20).go H fun _ H => bnd (loadV true 8 t4 H) fun x21 => some (x21, H)) t2 t4 t5 H)
def j185_2 (c : Cx) : Nat → Nat → F5 := recN (fun _ _ _ _ _ _ _ => none) fun ih n2 => b185_2 c (ih n2) n2
theorem o185_2 (c : Cx) : d185_2 c = j185_2 c := by
  unfold j185_2
  refine recN_ok (by kernel_rfl) fun m => funext fun n2 => ?_
  funext t1 t2 t4 t5 t6 H
  refine Eq.trans (jnK_eq 17179869302 _ _ H _) ?_
  kernel_rfl
def b185_1 (c : Cx) (j2 : Nat → Nat → F5) (t0 t1 : V) (H : List Blk) : X := newK 2 H fun q H => (aBox (q + 0) t0).go H fun x1 H => (aAlloc (q + 1) z1).go H fun x2 H => j2 c.n H.length t1 x1 x2 .nilS (ci 0) H
def j185_1 (c : Cx) : F2 := b185_1 c (j185_2 c)
theorem o185_1 (c : Cx) : d185_1 c = j185_1 c := by
  unfold j185_1; rw [← o185_2]
  funext t0 t1 H
  refine Eq.trans (stepK_jn c.pc c.ic c.n _ H _ 8589934595 c185_1) ?_
  kernel_rfl
def b185_0 (c : Cx) (j1 : F2) (t0 t1 : V) (H : List Blk) : X := j1 t0 t1 H
def s185 (c : Cx) (args : List V) (H : List Blk) : X := argsK 2 args (b185_0 c (j185_1 c) (getT args 0) (getT args 1) H)
theorem e185 (pc ic n args H) : runK pc ic n c185 args H = s185 ⟨pc, ic, n⟩ args H := by
  unfold s185; rw [← o185_1]
  kernel_rfl
def L185 : Leaf := ⟨c185, fun pc ic n => s185 ⟨pc, ic, n⟩, e185⟩
theorem kk185 : chkFn Go.Proofs.Tryz.prog ET 185 c185 = true := by kernel_rfl

def c186 : Fn := { fid := 186, np := 2, ntmps := 8, body := (.seq (.reg 0 none [m 4 (.c cf) 0]) (.seq (.reg 0 none [m 5 (.t 0) 0, m 6 (.t 1) 1, o 7 (.call 270) [.t 5, .t 6] 2, m 4 (.t 7) 3]) .ret)), res := [.tmp 4] }
def L186 : Leaf := coldL c186
theorem kk186 : chkFn Go.Proofs.Tryz.prog ET 186 c186 = true := by kernel_rfl

def c196_1 : C := (.seq (.reg 3 none [o 2 (.box 0) [.t 0] 0, o 3 (.box 1) [.t 1] 1, o 4 (.alloc 2 z1) [] 2]) (.seq (.reg 0 none [o 8 (.fld 2) [.t 2] 0, o 9 (.load false 1) [.t 8] 1, o 10 (.fld 0) [.t 3] 2, o 11 (.load false 1) [.t 10] 3, o 12 (.ix 4) [.t 9, .t 11] 4, o 13 (.fld 3) [.t 12] 5, o 14 (.load false 1) [.t 13] 6, m 5 (.t 14) 7]) (.seq (.reg 0 none [m 16 (.t 5) 0, o 17 (.fld 1) [.t 3] 1, o 18 (.load false 1) [.t 17] 2, o 19 (.icall 254) [.t 16, .t 18, .c (.fn 273 [])] 3, m 15 (.t 19) 4, o 20 (.ext 0) [.t 15] 5, o 21 (.ext 1) [.t 15] 6, m 6 (.t 20) 7, m 7 (.t 21) 8]) (.seq (.seq (.reg 0 none [m 22 (.t 7) 0, o 23 (.un .not) [.t 22] 1]) (.cond (.t 23) (.seq (.reg 0 none [o 24 (.build z1 []) [] 0, ⟨none, .store 8, [.t 4, .t 24], none, 0, 1⟩]) .ret) .skip)) (.seq (.reg 0 none [m 25 (.t 5) 0, m 26 (.t 6) 1, o 27 (.ix 8) [.t 25, .t 26] 2, o 28 (.load true 8) [.t 27] 3, ⟨none, .store 8, [.t 4, .t 28], none, 0, 4⟩]) .ret)))))
def c196 : Fn := { fid := 196, np := 2, ntmps := 29, body := (.jn 536870915 c196_1), res := [.cell 4 true 8] }
def d196_1 (c : Cx) (t0 t1 : V) (H : List Blk) : X := stepK c.pc c.ic c.n (.jn 536870915 c196_1) (cn 0 29 [(0, t0), (1, t1)]) H (kTop c196.res)
def b196_1 (c : Cx) (t0 t1 : V) (H : List Blk) : X := newK 3 H fun q H => (aBox (q + 0) t0).go H fun x1 H => (aBox (q + 1) t1).go H fun x2 H => (aAlloc (q + 2) z1).go H fun x3 H => p (aFld 2 x1) fun x4 => (aLoad false 1 x4).go H fun x5 H => p (aFld 0 x2) fun x6 => (fun (x2 x3 x5 x6 : V) (H : L) (c : Cx) => (aLoad false 1 x6).go H fun x7 H => p (aIx 4 x5 x7) fun x8 => p (aFld 3 x8) fun x9 => (aLoad false 1 x9).go H fun x10 H => p (aFld 1 x2) fun x11 => (fun (x3 x10 x11 : V) (H : L) (c : Cx) => (aLoad false 1 x11).go H fun x12 H => icK c 254 [x10, x12, (.fn 273 [])] H fun x13 H => p (aExt 0 x13) fun x14 => p (aExt 1 x13) fun x15 => p (aUn .not x15) fun x16 => condK x16 (p (aBuild z1 [] []) fun x17 => (aStore 8 x3 x17).go H fun _ H => bnd (loadV true 8 x3 H) fun x18 => some (x18, H)) (p (aIx 8 x10 x14) fun x19 => (aLoad true 8 x19).go H fun x20 H => (aStore 8 x3 x20).go H fun _ H => bnd (loadV true 8 x3 H) fun x21 => some (x21, H))) x3 x10 x11 H c) x2 x3 x5 x6 H c
def j196_1 (c : Cx) : F2 := b196_1 c
theorem o196_1 (c : Cx) : d196_1 c = j196_1 c := by
  unfold j196_1
  funext t0 t1 H
  refine Eq.trans (stepK_jn c.pc c.ic c.n _ H _ 536870915 c196_1) ?_
  kernel_rfl
def b196_0 (c : Cx) (j1 : F2) (t0 t1 : V) (H : List Blk) : X := j1 t0 t1 H
def s196 (c : Cx) (args : List V) (H : List Blk) : X := argsK 2 args (b196_0 c (j196_1 c) (getT args 0) (getT args 1) H)
theorem e196 (pc ic n args H) : runK pc ic n c196 args H = s196 ⟨pc, ic, n⟩ args H := by
  unfold s196; rw [← o196_1]
  kernel_rfl
def L196 : Leaf := ⟨c196, fun pc ic n => s196 ⟨pc, ic, n⟩, e196⟩
theorem kk196 : chkFn Go.Proofs.Tryz.prog ET 196 c196 = true := by kernel_rfl

def c197 : Fn := { fid := 197, np := 1, ntmps := 11, body := (.seq (.reg 0 none [m 3 (.t 0) 0, o 4 (.len 1) [.t 3] 1, m 2 (.t 4) 2]) (.reg 0 none [m 5 (.t 0) 0, m 6 (.t 2) 1, m 7 (.t 2) 2, o 8 (.toInt .u64) [.t 7] 3, o 9 (.call 275) [.t 8] 4, o 10 (.icall 274) [.t 5, .c (ci 0), .t 6, .t 9] 5])), res := [] }
def L197 : Leaf := coldL c197
theorem kk197 : chkFn Go.Proofs.Tryz.prog ET 197 c197 = true := by kernel_rfl

def c198_3 : C := (.seq (.seq (.reg 0 none [m 29 (.t 5) 0, m 30 (.t 4) 1, o 31 (.len 1) [.t 30] 2, o 32 (.bin .lss) [.t 29, .t 31] 3]) (.cond (.t 32) .skip (.exit 2))) (.seq (.blk 3 (.seq (.reg 0 (some ⟨true, [], 61⟩) [m 35 (.t 4) 0, m 36 (.t 5) 1, ⟨some 37, .ix 1, [.t 35, .t 36], none, 3, 2⟩, ⟨some 38, .load false 1, [.t 37], none, 7, 3⟩, m 39 (.t 4) 4, m 40 (.t 5) 5, ⟨some 41, .bin .sub, [.t 40, .c (ci 1)], none, 32, 6⟩, ⟨some 42, .ix 1, [.t 39, .t 41], none, 112, 7⟩, ⟨some 43, .load false 1, [.t 42], none, 240, 8⟩, ⟨some 44, .bin .neq, [.t 38, .t 43], none, 511, 9⟩]) (.cond (.t 44) (.seq (.reg 0 none [m 45 (.t 0) 0, m 46 (.t 3) 1, m 47 (.t 4) 2, m 48 (.t 5) 3, o 49 (.ix 1) [.t 47, .t 48] 4, o 50 (.load false 1) [.t 49] 5, o 51 (.ix 1) [.t 45, .t 46] 6, ⟨none, .store 1, [.t 51, .t 50], none, 0, 7⟩]) (.reg 0 none [m 52 (.t 3) 0, o 53 (.bin .add) [.t 52, .c (ci 1)] 1, m 3 (.t 53) 2])) .skip))) (.reg 0 none [m 33 (.t 5) 0, o 34 (.bin .add) [.t 33, .c (ci 1)] 1, m 5 (.t 34) 2])))
def c198_s1 : C := (.seq (.reg 0 none [m 54 (.t 0) 0, m 55 (.t 3) 1, o 56 (.sub 1 true false false) [.t 54, .t 55] 2, ⟨none, .clear 1 [(.d (.str []))], [.t 56], none, 0, 3⟩]) (.seq (.reg 0 none [m 57 (.t 0) 0, m 58 (.t 3) 1, o 59 (.sub 1 false true false) [.t 57, .t 58] 2, m 2 (.t 59) 3]) .ret))
def c198_s2 : C := (.reg 0 none [m 14 (.t 3) 0, o 15 (.bin .add) [.t 14, .c (ci 1)] 1, m 3 (.t 15) 2])
def c198_2 : C := (.seq (.seq (.reg 0 none [m 10 (.t 3) 0, m 11 (.t 0) 1, o 12 (.len 1) [.t 11] 2, o 13 (.bin .lss) [.t 10, .t 12] 3]) (.cond (.t 13) .skip (.exit 0))) (.seq (.blk 1 (.seq (.reg 0 (some ⟨true, [], 61⟩) [m 16 (.t 0) 0, m 17 (.t 3) 1, ⟨some 18, .ix 1, [.t 16, .t 17], none, 3, 2⟩, ⟨some 19, .load false 1, [.t 18], none, 7, 3⟩, m 20 (.t 0) 4, m 21 (.t 3) 5, ⟨some 22, .bin .sub, [.t 21, .c (ci 1)], none, 32, 6⟩, ⟨some 23, .ix 1, [.t 20, .t 22], none, 112, 7⟩, ⟨some 24, .load false 1, [.t 23], none, 240, 8⟩, ⟨some 25, .bin .eql, [.t 19, .t 24], none, 511, 9⟩]) (.cond (.t 25) (.seq (.reg 0 none [m 26 (.t 0) 0, m 27 (.t 3) 1, o 28 (.sub 1 true false false) [.t 26, .t 27] 2, m 4 (.t 28) 3]) (.seq (.seq (.reg 0 none [m 5 (.c (ci 1)) 0]) (.blk 2 (.loop 6917529027641081913 false c198_3))) c198_s1)) .skip))) c198_s2))
def c198_s3 : C := (.seq (.reg 0 none [m 60 (.t 0) 0, m 2 (.t 60) 1]) .ret)
def c198_1 : C := (.seq (.reg 0 none [m 2 (.c .nilS) 0]) (.seq (.seq (.reg 0 none [m 6 (.t 0) 0, o 7 (.len 1) [.t 6] 1, o 8 (.bin .lss) [.t 7, .c (ci 2)] 2]) (.cond (.t 8) (.seq (.reg 0 none [m 9 (.t 0) 0, m 2 (.t 9) 1]) .ret) .skip)) (.seq (.seq (.reg 0 none [m 3 (.c (ci 1)) 0]) (.blk 0 (.loop 4611686018427387913 false c198_2))) c198_s3)))
def c198 : Fn := { fid := 198, np := 1, ntmps := 61, body := (.jn 2305843009213693953 c198_1), res := [.tmp 2] }
def L198 : Leaf := coldL c198
theorem kk198 : chkFn Go.Proofs.Tryz.prog ET 198 c198 = true := by kernel_rfl

def c199_2 : C := (.seq (.seq (.reg 0 none [m 16 (.t 6) 0, m 17 (.t 0) 1, o 18 (.len 1) [.t 17] 2, o 19 (.bin .lss) [.t 16, .t 18] 3]) (.cond (.t 19) .skip (.exit 0))) (.seq (.blk 1 (.seq (.reg 0 none [m 22 (.t 0) 0, m 23 (.t 6) 1, o 24 (.ix 1) [.t 22, .t 23] 2, o 25 (.load false 1) [.t 24] 3, m 7 (.t 25) 4]) (.seq (.reg 0 none [m 26 (.t 1) 0, m 27 (.t 7) 1, o 28 .dcall [.t 26, .t 27] 2, o 29 (.un .not) [.t 28] 3]) (.cond (.t 29) (.seq (.reg 0 none [m 30 (.t 0) 0, m 31 (.t 5) 1, m 32 (.t 7) 2, o 33 (.ix 1) [.t 30, .t 31] 3, ⟨none, .store 1, [.t 33, .t 32], none, 0, 4⟩]) (.reg 0 none [m 34 (.t 5) 0, o 35 (.bin .add) [.t 34, .c (ci 1)] 1, m 5 (.t 35) 2])) .skip)))) (.reg 0 none [m 20 (.t 6) 0, o 21 (.bin .add) [.t 20, .c (ci 1)] 1, m 6 (.t 21) 2])))
def c199_s1 : C := (.seq (.reg 0 none [m 36 (.t 0) 0, m 37 (.t 5) 1, o 38 (.sub 1 true false false) [.t 36, .t 37] 2, ⟨none, .clear 1 [(.d (.str []))], [.t 38], none, 0, 3⟩]) (.seq (.reg 0 none [m 39 (.t 0) 0, m 40 (.t 5) 1, o 41 (.sub 1 false true false) [.t 39, .t 40] 2, m 4 (.t 41) 3]) .ret))
def c199_1 : C := (.seq (.reg 0 none [m 4 (.c .nilS) 0]) (.seq (.reg 0 none [m 8 (.t 0) 0, m 9 (.t 1) 1, o 10 (.icall 10276) [.t 8, .t 9] 2, m 5 (.t 10) 3]) (.seq (.seq (.reg 0 none [m 11 (.t 5) 0, o 12 (.bin .eql) [.t 11, .c (ci (-1))] 1]) (.cond (.t 12) (.seq (.reg 0 none [m 13 (.t 0) 0, m 4 (.t 13) 1]) .ret) .skip)) (.seq (.seq (.reg 0 none [m 14 (.t 5) 0, o 15 (.bin .add) [.t 14, .c (ci 1)] 1, m 6 (.t 15) 2]) (.blk 0 (.loop 8796093022307 true c199_2))) c199_s1))))
def c199 : Fn := { fid := 199, np := 2, ntmps := 42, body := (.jn 4398046511107 c199_1), res := [.tmp 4] }
def L199 : Leaf := coldL c199
theorem kk199 : chkFn Go.Proofs.Tryz.prog ET 199 c199 = true := by kernel_rfl

def c200 : Fn := { fid := 200, np := 3, ntmps := 15, body := (.seq (.reg 0 none [m 4 (.c cf) 0]) (.seq (.reg 0 none [m 5 (.t 0) 0, o 6 (.call 201) [.t 5] 1, m 7 (.t 6) 2, ⟨some 8, .load true 7, [.t 1], some (7, false), 0, 3⟩, ⟨some 9, .load false 1, [.t 2], some (7, false), 0, 4⟩, ⟨some 10, .mov, [.t 0], some (7, false), 0, 5⟩, ⟨some 11, .call 79, [.t 8, .t 9, .t 10], some (7, false), 0, 6⟩, ⟨some 12, .len 1, [.t 11], some (7, false), 0, 7⟩, ⟨some 13, .bin .eql, [.t 12, .c (ci 0)], some (7, false), 0, 8⟩, o 14 .pick [.t 7, .c ct, .t 13] 9, m 4 (.t 14) 10]) .ret)), res := [.tmp 4] }
def L200 : Leaf := coldL c200
theorem kk200 : chkFn Go.Proofs.Tryz.prog ET 200 c200 = true := by kernel_rfl

def c201 : Fn := { fid := 201, np := 1, ntmps := 14, body := (.seq (.reg 0 none [m 2 (.c cf) 0]) (.seq (.reg 0 none [m 3 (.c (ci 4)) 0]) (.seq (.reg 0 none [m 4 (.t 0) 0, o 5 (.len 0) [.t 4] 1, m 6 (.t 3) 2, o 7 (.bin .geq) [.t 5, .t 6] 3, m 8 (.t 7) 4, ⟨some 9, .mov, [.t 0], some (8, true), 0, 5⟩, ⟨some 10, .mov, [.t 3], some (8, true), 0, 6⟩, ⟨some 11, .subStr false true, [.t 9, .t 10], some (8, true), 0, 7⟩, ⟨some 12, .bin .eql, [.t 11, .c (.d (.str [46, 119, 104, 46]))], some (8, true), 0, 8⟩, o 13 .pick [.t 8, .t 12, .c cf] 9, m 2 (.t 13) 10]) .ret))), res := [.tmp 2] }
def L201 : Leaf := coldL c201
theorem kk201 : chkFn Go.Proofs.Tryz.prog ET 201 c201 = true := by kernel_rfl

def c202_2 : C := (.seq (.seq (.reg 0 none [m 10 (.t 8) 0, m 11 (.t 1) 1, m 12 (.t 2) 2, o 13 (.bin .add) [.t 11, .t 12] 3, o 14 (.bin .lss) [.t 10, .t 13] 4, m 15 (.t 14) 5, ⟨some 16, .mov, [.t 8], some (15, true), 0, 6⟩, ⟨some 17, .fld 0, [.t 3], some (15, true), 0, 7⟩, ⟨some 18, .load false 1, [.t 17], some (15, true), 0, 8⟩, ⟨some 19, .bin .lss, [.t 16, .t 18], some (15, true), 0, 9⟩, o 20 .pick [.t 15, .t 19, .c cf] 10]) (.cond (.t 20) .skip (.exit 0))) (.seq (.blk 1 (.reg 1 none [m 23 (.t 7) 0, o 24 (.load true 2) [.t 3] 1, m 25 (.t 8) 2, o 26 (.call 277) [.t 24, .t 25] 3, o 27 (.bsl 1 [(.int .u8 0)] 1 [0]) [.t 26] 4, o 28 (.app 0 1 1) [.t 23, .t 27] 5, m 7 (.t 28) 6])) (.reg 0 none [m 21 (.t 8) 0, o 22 (.bin .add) [.t 21, .c (ci 1)] 1, m 8 (.t 22) 2])))
def c202_s1 : C := (.seq (.reg 0 none [m 29 (.t 7) 0, m 6 (.t 29) 1]) .ret)
def c202_1 : C := (.seq (.reg 1 none [o 3 (.box 0) [.t 0] 0, m 6 (.c .nilS) 1]) (.seq (.reg 0 none [m 7 (.c .nilS) 0]) (.seq (.seq (.reg 0 none [m 9 (.t 1) 0, m 8 (.t 9) 1]) (.blk 0 (.loop 2147484046 false c202_2))) c202_s1)))
def c202 : Fn := { fid := 202, np := 3, ntmps := 30, body := (.jn 1073741831 c202_1), res := [.tmp 6] }
def L202 : Leaf := coldL c202
theorem kk202 : chkFn Go.Proofs.Tryz.prog ET 202 c202 = true := by kernel_rfl

def c203_2 : C := (.seq (.seq (.reg 0 none [m 4 (.t 3) 0, m 5 (.t 0) 1, o 6 (.len 0) [.t 5] 2, o 7 (.bin .lss) [.t 4, .t 6] 3]) (.cond (.t 7) .skip (.exit 0))) (.seq (.blk 1 (.seq (.reg 0 none [m 10 (.t 0) 0, m 11 (.t 3) 1, o 12 .ixs [.t 10, .t 11] 2, o 13 (.bin .eql) [.t 12, .c (.d (.int .u8 0))] 3]) (.cond (.t 13) (.seq (.reg 0 none [m 2 (.c ct) 0]) .ret) .skip))) (.reg 0 none [m 8 (.t 3) 0, o 9 (.bin .add) [.t 8, .c (ci 1)] 1, m 3 (.t 9) 2])))
def c203_s1 : C := (.seq (.reg 0 none [m 2 (.c cf) 0]) .ret)
def c203_1 : C := (.seq (.reg 0 none [m 2 (.c cf) 0]) (.seq (.seq (.reg 0 none [m 3 (.c (ci 0)) 0]) (.blk 0 (.loop 32777 false c203_2))) c203_s1))
def c203 : Fn := { fid := 203, np := 1, ntmps := 14, body := (.jn 16385 c203_1), res := [.tmp 2] }
def L203 : Leaf := coldL c203
theorem kk203 : chkFn Go.Proofs.Tryz.prog ET 203 c203 = true := by kernel_rfl

def l204_0 : List O := [o 27 (.load true 8) [.t 7] 0, m 28 (.t 1) 1, m 29 (.t 1) 2, ⟨some 30, .len 1, [.t 29], none, 4, 3⟩, ⟨some 31, .bin .sub, [.t 30, .c (ci 1)], none, 12, 4⟩, ⟨some 32, .ix 1, [.t 28, .t 31], none, 30, 5⟩, ⟨some 33, .load false 1, [.t 32], none, 62, 6⟩, ⟨none, .store 8, [.t 4, .t 27], none, 1, 7⟩, ⟨some 5, .mov, [.t 33], none, 255, 8⟩, ⟨some 6, .mov, [.c (ci 0)], none, 511, 9⟩]
def c204_1 : C := (.seq (.seq (.reg 0 none [m 19 (.t 8) 0, o 20 (.bin .neq) [.t 19, .c (ci 0)] 1]) (.cond (.t 20) (.seq (.reg 0 none [o 21 (.build z1 []) [] 0, m 22 (.t 8) 1, ⟨none, .store 8, [.t 4, .t 21], none, 0, 2⟩, m 5 (.c (.d (.str []))) 3, m 6 (.t 22) 4]) .ret) .skip)) (.seq (.seq (.reg 0 none [o 23 (.fld 1) [.t 7] 0, o 24 (.load false 1) [.t 23] 1, o 25 (.bin .neq) [.t 24, .c (ci 2)] 2]) (.cond (.t 25) (.seq (.reg 0 none [o 26 (.build z1 []) [] 0, ⟨none, .store 8, [.t 4, .t 26], none, 0, 1⟩, m 5 (.c (.d (.str []))) 2, m 6 (.c (ci 4)) 3]) .ret) .skip)) (.seq (.reg 0 (some ⟨false, [0, 2, 3, 7, 1, 4, 5, 6, 8, 9], 34⟩) l204_0) .ret)))
def l204_1 : List O := [o 10 (.load true 4) [.t 2] 0, m 11 (.t 1) 1, m 12 (.t 1) 2, ⟨some 13, .len 1, [.t 12], none, 4, 3⟩, ⟨some 14, .bin .sub, [.t 13, .c (ci 1)], none, 12, 4⟩, ⟨some 15, .sub 1 false true false, [.t 11, .t 14], none, 30, 5⟩, ⟨some 16, .call 12, [.t 10, .t 15], none, 63, 6⟩, ⟨some 9, .mov, [.t 16], none, 127, 7⟩, ⟨some 17, .ext 0, [.t 9], none, 255, 8⟩, ⟨some 18, .ext 1, [.t 9], none, 255, 9⟩, o 7 (.alloc 0 z1) [] 10, ⟨none, .store 8, [.t 7, .t 17], none, 1535, 11⟩, ⟨some 8, .mov, [.t 18], none, 4095, 12⟩]
def c204 : Fn := { fid := 204, np := 2, ntmps := 34, body := (.seq (.reg 2 none [o 2 (.box 0) [.t 0] 0, o 4 (.alloc 1 z1) [] 1, m 5 (.c (.d (.str []))) 2, m 6 (.c (ci 0)) 3]) (.seq (.reg 1 (some ⟨false, [0, 1, 2, 3, 4, 5, 6, 7, 8, 10, 11, 9, 12], 34⟩) l204_1) (.jn 17179869586 c204_1))), res := [.cell 4 true 8, .tmp 5, .tmp 6] }
def L204 : Leaf := coldL c204
theorem kk204 : chkFn Go.Proofs.Tryz.prog ET 204 c204 = true := by kernel_rfl

def c205_1 : C := (.seq (.reg 2 none [o 3 (.box 0) [.t 0] 0, o 6 (.alloc 1 z0) [] 1, m 7 (.c (ci 0)) 2]) (.seq (.reg 0 none [o 14 (.load true 4) [.t 3] 0, m 15 (.t 1) 1, m 16 (.t 2) 2, o 17 (.call 221) [.t 14, .t 15, .t 16] 3, m 13 (.t 17) 4, o 18 (.ext 0) [.t 13] 5, o 19 (.ext 1) [.t 13] 6, m 8 (.t 18) 7, m 9 (.t 19) 8]) (.seq (.seq (.reg 0 none [m 20 (.t 9) 0, o 21 (.un .not) [.t 20] 1]) (.cond (.t 21) (.seq (.reg 0 none [o 22 (.load true 4) [.t 3] 0, ⟨none, .store 4, [.t 6, .t 22], none, 0, 1⟩, m 7 (.c (ci 2)) 2]) .ret) .skip)) (.seq (.reg 1 none [o 23 (.load true 4) [.t 3] 0, m 24 (.t 1) 1, m 25 (.t 2) 2, o 26 (.call 278) [.t 23, .t 24, .t 25] 3, o 10 (.alloc 0 z0) [] 4, ⟨none, .store 4, [.t 10, .t 26], none, 0, 5⟩]) (.seq (.reg 1 none [o 28 (.load true 4) [.t 10] 0, m 29 (.t 8) 1, o 30 (.call 16) [.t 28, .t 29] 2, m 27 (.t 30) 3, o 31 (.ext 0) [.t 27] 4, o 32 (.ext 1) [.t 27] 5, o 11 (.alloc 0 z1) [] 6, ⟨none, .store 8, [.t 11, .t 31], none, 0, 7⟩, m 12 (.t 32) 8]) (.seq (.reg 0 none [o 33 (.fld 3) [.t 11] 0, o 34 (.load false 1) [.t 33] 1, o 35 (.bin .sub) [.t 34, .c (ci 1)] 2, o 36 (.fld 3) [.t 11] 3, ⟨none, .store 1, [.t 36, .t 35], none, 0, 4⟩]) (.seq (.seq (.reg 0 none [o 37 (.fld 3) [.t 11] 0, o 38 (.load false 1) [.t 37] 1, o 39 (.bin .lss) [.t 38, .c (ci 1)] 2]) (.cond (.t 39) (.seq (.reg 0 none [o 40 (.load true 4) [.t 10] 0, m 41 (.t 8) 1, o 42 (.call 182) [.t 40, .t 41] 2, ⟨none, .store 4, [.t 6, .t 42], none, 0, 3⟩, m 7 (.c (ci 0)) 4]) .ret) .skip)) (.seq (.reg 0 none [o 43 (.load true 4) [.t 10] 0, o 44 (.load true 8) [.t 11] 1, o 45 (.call 103) [.t 43, .t 44] 2, ⟨none, .store 4, [.t 6, .t 45], none, 0, 3⟩, m 7 (.c (ci 0)) 4]) .ret))))))))
def c205 : Fn := { fid := 205, np := 3, ntmps := 46, body := (.jn 70368744177671 c205_1), res := [.cell 6 true 4, .tmp 7] }
def L205 : Leaf := coldL c205
theorem kk205 : chkFn Go.Proofs.Tryz.prog ET 205 c205 = true := by kernel_rfl

def c211_1 : C := (.seq (.reg 1 none [o 2 (.box 0) [.t 0] 0, m 4 (.c .nilS) 1, m 5 (.c (ci 0)) 2, m 6 (.c (.d (.str []))) 3, m 7 (.c (ci 0)) 4]) (.seq (.reg 0 (some ⟨true, [0, 1, 2, 3, 4, 5, 6, 7, 8, 11, 9, 12, 10, 13], 39⟩) [o 12 (.load true 7) [.t 2] 0, m 13 (.t 1) 1, m 14 (.t 1) 2, ⟨some 15, .len 1, [.t 14], none, 4, 3⟩, ⟨some 16, .bin .sub, [.t 15, .c (ci 1)], none, 12, 4⟩, ⟨some 17, .sub 1 false true false, [.t 13, .t 16], none, 30, 5⟩, ⟨some 18, .call 13, [.t 12, .t 17], none, 63, 6⟩, ⟨some 11, .mov, [.t 18], none, 127, 7⟩, ⟨some 19, .ext 0, [.t 11], none, 255, 8⟩, ⟨some 20, .ext 1, [.t 11], none, 255, 9⟩, ⟨some 21, .ext 2, [.t 11], none, 255, 10⟩, ⟨some 8, .mov, [.t 19], none, 511, 11⟩, ⟨some 9, .mov, [.t 20], none, 3071, 12⟩, ⟨some 10, .mov, [.t 21], none, 8191, 13⟩]) (.seq (.seq (.reg 0 none [m 22 (.t 10) 0, o 23 (.bin .neq) [.t 22, .c (ci 0)] 1]) (.cond (.t 23) (.seq (.reg 0 none [m 24 (.t 10) 0, m 4 (.c .nilS) 1, m 5 (.c (ci 0)) 2, m 6 (.c (.d (.str []))) 3, m 7 (.t 24) 4]) .ret) .skip)) (.seq (.seq (.reg 0 (some ⟨true, [], 39⟩) [o 25 (.load true 7) [.t 2] 0, m 26 (.t 8) 1, ⟨some 27, .ix 2, [.t 26, .c (ci 0)], none, 2, 2⟩, ⟨some 28, .load true 2, [.t 27], none, 6, 3⟩, ⟨some 29, .call 46, [.t 25, .t 28], none, 15, 4⟩, ⟨some 30, .un .not, [.t 29], none, 31, 5⟩]) (.cond (.t 30) (.seq (.reg 0 none [m 4 (.c .nilS) 0, m 5 (.c (ci 0)) 1, m 6 (.c (.d (.str []))) 2, m 7 (.c (ci 4)) 3]) .ret) .skip)) (.seq (.reg 0 (some ⟨true, [0, 3, 4, 8, 1, 9, 2, 5, 6, 7, 10, 11], 39⟩) [m 31 (.t 8) 0, m 32 (.t 9) 1, m 33 (.t 1) 2, m 34 (.t 1) 3, ⟨some 35, .len 1, [.t 34], none, 8, 4⟩, ⟨some 36, .bin .sub, [.t 35, .c (ci 1)], none, 24, 5⟩, ⟨some 37, .ix 1, [.t 33, .t 36], none, 60, 6⟩, ⟨some 38, .load false 1, [.t 37], none, 124, 7⟩, ⟨some 4, .mov, [.t 31], none, 1, 8⟩, ⟨some 5, .mov, [.t 32], none, 259, 9⟩, ⟨some 6, .mov, [.t 38], none, 1023, 10⟩, ⟨some 7, .mov, [.c (ci 0)], none, 2047, 11⟩]) .ret)))))
def c211 : Fn := { fid := 211, np := 2, ntmps := 39, body := (.jn 549755813891 c211_1), res := [.tmp 4, .tmp 5, .tmp 6, .tmp 7] }
def L211 : Leaf := coldL c211
theorem kk211 : chkFn Go.Proofs.Tryz.prog ET 211 c211 = true := by kernel_rfl

def c216_2 : C := (.seq (.seq (.reg 0 none [m 12 (.t 7) 0, o 13 (.fld 2) [.t 3] 1, o 14 (.load false 1) [.t 13] 2, o 15 (.len 1) [.t 14] 3, o 16 (.bin .lss) [.t 12, .t 15] 4, m 17 (.t 16) 5, ⟨some 18, .fld 2, [.t 3], some (17, true), 0, 6⟩, ⟨some 19, .load false 1, [.t 18], some (17, true), 0, 7⟩, ⟨some 20, .mov, [.t 7], some (17, true), 0, 8⟩, ⟨some 21, .ix 3, [.t 19, .t 20], some (17, true), 0, 9⟩, ⟨some 22, .fld 2, [.t 21], some (17, true), 0, 10⟩, ⟨some 23, .load false 1, [.t 22], some (17, true), 0, 11⟩, ⟨some 24, .mov, [.t 1], some (17, true), 0, 12⟩, ⟨some 25, .bin .lss, [.t 23, .t 24], some (17, true), 0, 13⟩, o 26 .pick [.t 17, .t 25, .c cf] 14]) (.cond (.t 26) .skip (.exit 0))) (.blk 1 (.reg 0 none [m 27 (.t 7) 0, o 28 (.bin .add) [.t 27, .c (ci 1)] 1, m 7 (.t 28) 2])))
def c216_3 : C := (.seq (.reg 1 none [m 40 (.t 8) 0, o 41 (.fld 2) [.t 3] 1, o 42 (.load false 1) [.t 41] 2, m 43 (.t 7) 3, o 44 (.sub 3 true false false) [.t 42, .t 43] 4, o 45 (.app 0 3 24) [.t 40, .t 44] 5, o 46 (.fld 2) [.t 3] 6, ⟨none, .store 1, [.t 46, .t 45], none, 0, 7⟩]) (.seq (.reg 0 none [o 47 (.load true 4) [.t 3] 0, ⟨none, .store 4, [.t 6, .t 47], none, 0, 1⟩]) .ret))
def l216_0 : List O := [o 29 (.bsl 3 z12 0 []) [] 0, o 30 (.fld 2) [.t 3] 1, ⟨some 31, .load false 1, [.t 30], none, 2, 2⟩, m 32 (.t 7) 3, ⟨some 33, .sub 3 false true false, [.t 31, .t 32], none, 14, 4⟩, ⟨some 34, .app 0 3 24, [.t 29, .t 33], none, 31, 5⟩, o 35 (.load true 2) [.t 5] 6, m 36 (.t 1) 7, ⟨some 37, .build z11 [(0, 2), (2, 1)], [.t 35, .t 36], none, 192, 8⟩, ⟨some 38, .bsl 3 z12 1 [0], [.t 37], none, 448, 9⟩, ⟨some 39, .app 1 3 24, [.t 34, .t 38], none, 1023, 10⟩, ⟨some 8, .mov, [.t 39], none, 2047, 11⟩]
def c216_s1 : C := (.seq (.reg 2 (some ⟨false, [], 48⟩) l216_0) (.jn 844424930132424 c216_3))
def c216_1 : C := (.seq (.reg 3 none [o 3 (.box 0) [.t 0] 0, o 5 (.box 1) [.t 2] 1, o 6 (.alloc 2 z10) [] 2]) (.seq (.reg 0 none [o 9 (.load true 4) [.t 3] 0, m 10 (.t 1) 1, o 11 (.call 229) [.t 9, .t 10] 2, ⟨none, .store 4, [.t 3, .t 11], none, 0, 3⟩]) (.seq (.reg 0 none [m 7 (.c (ci 0)) 0]) (.seq (.blk 0 (.loop 562949953421546 false c216_2)) c216_s1))))
def c216 : Fn := { fid := 216, np := 3, ntmps := 48, body := (.jn 281474976710663 c216_1), res := [.cell 6 true 4] }
def L216 : Leaf := coldL c216
theorem kk216 : chkFn Go.Proofs.Tryz.prog ET 216 c216 = true := by kernel_rfl

def c218 : Fn := { fid := 218, np := 1, ntmps := 5, body := (.seq (.reg 0 none [m 2 (.c (.d (.str []))) 0]) (.seq (.reg 0 none [m 3 (.t 0) 0, o 4 (.bin .add) [.c (.d (.str [46, 119, 104, 46])), .t 3] 1, m 2 (.t 4) 2]) .ret)), res := [.tmp 2] }
def b218_0 (c : Cx) (t0 : V) (H : List Blk) : X := p (aBin .add (.d (.str [46, 119, 104, 46])) t0) fun x1 => some (x1, H)
def s218 (c : Cx) (args : List V) (H : List Blk) : X := argsK 1 args (b218_0 c (getT args 0) H)
theorem e218 (pc ic n args H) : runK pc ic n c218 args H = s218 ⟨pc, ic, n⟩ args H := by
  unfold s218
  kernel_rfl
def L218 : Leaf := ⟨c218, fun pc ic n => s218 ⟨pc, ic, n⟩, e218⟩
theorem kk218 : chkFn Go.Proofs.Tryz.prog ET 218 c218 = true := by kernel_rfl

def c219_2 : C := (.seq (.seq (.reg 0 none [m 6 (.t 5) 0, m 7 (.t 0) 1, o 8 (.len 1) [.t 7] 2, o 9 (.bin .lss) [.t 6, .t 8] 3]) (.cond (.t 9) .skip (.exit 0))) (.seq (.blk 1 (.seq (.reg 0 none [m 12 (.t 0) 0, m 13 (.t 5) 1, o 14 (.ix 2) [.t 12, .t 13] 2, o 15 (.fld 0) [.t 14] 3, o 16 (.load false 1) [.t 15] 4, m 17 (.t 1) 5, o 18 (.bin .eql) [.t 16, .t 17] 6]) (.cond (.t 18) (.seq (.reg 0 none [m 19 (.t 0) 0, m 20 (.t 5) 1, o 21 (.ix 2) [.t 19, .t 20] 2, o 22 (.fld 1) [.t 21] 3, o 23 (.load false 1) [.t 22] 4, m 4 (.t 23) 5]) .ret) .skip))) (.reg 0 none [m 10 (.t 5) 0, o 11 (.bin .add) [.t 10, .c (ci 1)] 1, m 5 (.t 11) 2])))
def c219_s1 : C := (.seq (.reg 0 none [m 4 (.c (ci 0)) 0]) .ret)
def c219_1 : C := (.seq (.reg 0 none [m 4 (.c (ci 0)) 0]) (.seq (.seq (.reg 0 none [m 5 (.c (ci 0)) 0]) (.blk 0 (.loop 33554467 false c219_2))) c219_s1))
def c219 : Fn := { fid := 219, np := 2, ntmps := 24, body := (.jn 16777219 c219_1), res := [.tmp 4] }
def L219 : Leaf := coldL c219
theorem kk219 : chkFn Go.Proofs.Tryz.prog ET 219 c219 = true := by kernel_rfl

def c220_2 : C := (.seq (.seq (.reg 0 (some ⟨true, [], 48⟩) [m 12 (.t 7) 0, o 13 (.fld 1) [.t 3] 1, ⟨some 14, .load false 1, [.t 13], none, 2, 2⟩, ⟨some 15, .len 1, [.t 14], none, 6, 3⟩, ⟨some 16, .bin .lss, [.t 12, .t 15], none, 15, 4⟩, ⟨some 17, .mov, [.t 16], none, 31, 5⟩, ⟨some 18, .fld 1, [.t 3], some (17, true), 63, 6⟩, ⟨some 19, .load false 1, [.t 18], some (17, true), 127, 7⟩, ⟨some 20, .mov, [.t 7], some (17, true), 63, 8⟩, ⟨some 21, .ix 3, [.t 19, .t 20], some (17, true), 511, 9⟩, ⟨some 22, .fld 0, [.t 21], some (17, true), 1023, 10⟩, ⟨some 23, .load true 2, [.t 22], some (17, true), 2047, 11⟩, ⟨some 24, .load true 2, [.t 4], some (17, true), 63, 12⟩, ⟨some 25, .call 248, [.t 23, .t 24], some (17, true), 8191, 13⟩, ⟨some 26, .pick, [.t 17, .t 25, .c cf], none, 16383, 14⟩]) (.cond (.t 26) .skip (.exit 0))) (.blk 1 (.reg 0 none [m 27 (.t 7) 0, o 28 (.bin .add) [.t 27, .c (ci 1)] 1, m 7 (.t 28) 2])))
def c220_3 : C := (.seq (.reg 1 none [m 40 (.t 8) 0, o 41 (.fld 1) [.t 3] 1, o 42 (.load false 1) [.t 41] 2, m 43 (.t 7) 3, o 44 (.sub 3 true false false) [.t 42, .t 43] 4, o 45 (.app 0 3 24) [.t 40, .t 44] 5, o 46 (.fld 1) [.t 3] 6, ⟨none, .store 1, [.t 46, .t 45], none, 0, 7⟩]) (.seq (.reg 0 none [o 47 (.load true 4) [.t 3] 0, ⟨none, .store 4, [.t 6, .t 47], none, 0, 1⟩]) .ret))
def l220_0 : List O := [o 29 (.bsl 3 z12 0 []) [] 0, o 30 (.fld 1) [.t 3] 1, ⟨some 31, .load false 1, [.t 30], none, 2, 2⟩, m 32 (.t 7) 3, ⟨some 33, .sub 3 false true false, [.t 31, .t 32], none, 14, 4⟩, ⟨some 34, .app 0 3 24, [.t 29, .t 33], none, 31, 5⟩, o 35 (.load true 2) [.t 4] 6, m 36 (.t 2) 7, ⟨some 37, .build z11 [(0, 2), (2, 1)], [.t 35, .t 36], none, 192, 8⟩, ⟨some 38, .bsl 3 z12 1 [0], [.t 37], none, 448, 9⟩, ⟨some 39, .app 1 3 24, [.t 34, .t 38], none, 1023, 10⟩, ⟨some 8, .mov, [.t 39], none, 2047, 11⟩]
def c220_s1 : C := (.seq (.reg 2 (some ⟨false, [], 48⟩) l220_0) (.jn 844424930132424 c220_3))
def c220_1 : C := (.seq (.reg 3 none [o 3 (.box 0) [.t 0] 0, o 4 (.box 1) [.t 1] 1, o 6 (.alloc 2 z10) [] 2]) (.seq (.reg 0 none [o 9 (.load true 4) [.t 3] 0, o 10 (.load true 2) [.t 4] 1, o 11 (.call 224) [.t 9, .t 10] 2, ⟨none, .store 4, [.t 3, .t 11], none, 0, 3⟩]) (.seq (.reg 0 none [m 7 (.c (ci 0)) 0]) (.seq (.blk 0 (.loop 562949953421532 false c220_2)) c220_s1))))
def c220 : Fn := { fid := 220, np := 3, ntmps := 48, body := (.jn 281474976710663 c220_1), res := [.cell 6 true 4] }
def d220_1 (c : Cx) (t0 t1 t2 : V) (H : List Blk) : X := stepK c.pc c.ic c.n (.jn 281474976710663 c220_1) (cn 0 48 [(0, t0), (1, t1), (2, t2)]) H (kTop c220.res)
def k220_1 (c : Cx) : KT := thenK (stepK c.pc c.ic c.n c220_s1) (kTop c220.res)
def k220_2 (c : Cx) : KT := blkK 0 (k220_1 c)
def d220_2 (c : Cx) (m n2 : Nat) (t2 t3 t4 t6 t7 : V) (H : List Blk) : X := jnK (loopsK (stepK c.pc c.ic c.n c220_2) 562949953421532 false n2 m) (cn 0 48 [(2, t2), (3, t3), (4, t4), (6, t6), (7, t7)]) H (k220_2 c) 562949953421532
def d220_3 (c : Cx) (t3 t6 t7 t8 : V) (H : List Blk) : X := stepK c.pc c.ic c.n (.jn 844424930132424 c220_3) (cn 0 48 [(3, t3), (6, t6), (7, t7), (8, t8)]) H (kTop c220.res)
def b220_3 (c : Cx) (t3 t6 t7 t8 : V) (H : List Blk) : X := newK 1 H fun q H => p (aFld 1 t3) fun x1 => (aLoad false 1 x1).go H fun x2 H => (fun (t3 t6 t7 t8 x2 : V) (q : Nat) (H : L) => (aSub 3 true false false x2 [t7]).go H fun x3 H => (aApp (q + 0) 3 24 t8 x3).go H fun x4 H => p (aFld 1 t3) fun x5 => (aStore 1 x5 x4).go H fun _ H => (aLoad true 4 t3).go H fun x6 H => (aStore 4 t6 x6).go H fun _ H => bnd (loadV true 4 t6 H) fun x7 => some (x7, H)) t3 t6 t7 t8 x2 q H
def j220_3 (c : Cx) : F4 := b220_3 c
theorem o220_3 (c : Cx) : d220_3 c = j220_3 c := by
  unfold j220_3
  funext t3 t6 t7 t8 H
  refine Eq.trans (stepK_jn c.pc c.ic c.n _ H _ 844424930132424 c220_3) ?_
  kernel_rfl
def b220_2 (c : Cx) (r2 : F5) (j3 : F4) (n2 : Nat) (t2 t3 t4 t6 t7 : V) (H : List Blk) : X := p (aFld 1 t3) fun x1 => (fun (t2 t3 t4 t6 t7 x1 : V) (H : L) (c : Cx) (j3 : F4) (r2 : F5) => (aLoad false 1 x1).go H fun x2 H => (aLen 1 x2).go H fun x3 H => p (aBin .lss t7 x3) fun x4 => guardK x4 true (fun k => (aFld 1 t3).go H k) H fun x5 H => (fun (t2 t3 t4 t6 t7 x1 x2 x3 x4 x5 : V) (H : L) (c : Cx) (j3 : F4) (r2 : F5) => guardK x4 true (fun k => (aLoad false 1 x5).go H k) H fun x6 H => guardK x4 true (fun k => (aMov t7).go H k) H fun x7 H => guardK x4 true (fun k => (aIx 3 x6 x7).go H k) H fun x8 H => guardK x4 true (fun k => (aFld 0 x8).go H k) H fun x9 H => (fun (t2 t3 t4 t6 t7 x1 x2 x3 x4 x5 x6 x7 x8 x9 : V) (H : L) (c : Cx) (j3 : F4) (r2 : F5) => guardK x4 true (fun k => (aLoad true 2 x9).go H k) H fun x10 H => guardK x4 true (fun k => (aLoad true 2 t4).go H k) H fun x11 H => guardK x4 true (fun k => (aCall c.pc 248 [x10, x11]).go H k) H fun x12 H => p (aPick x4 x12 cf) fun x13 => condK x13 (p (aBin .add t7 (ci 1)) fun x14 => r2 t2 t3 t4 t6 x14 H) ((fun (t2 t3 t4 t6 t7 x1 x2 x3 x4 x5 x6 x7 x8 x9 x10 x11 x12 x13 : V) (H : L) (c : Cx) (j3 : F4) => newK 2 H fun q H => drawnK c.pc c.ic l220_0 q (cn 0 48 [(2, t2), (3, t3), (4, t4), (6, t6), (7, t7), (12, t7), (13, x1), (14, x2), (15, x3), (16, x4), (17, x4), (18, x5), (19, x6), (20, x7), (21, x8), (22, x9), (23, x10), (24, x11), (25, x12), (26, x13)]) H fun ts14 H => j3 (getT ts14 3) (getT ts14 6) (getT ts14 7) (getT ts14 8) H) t2 t3 t4 t6 t7 x1 x2 x3 x4 x5 x6 x7 x8 x9 x10 x11 x12 x13 H c j3)) t2 t3 t4 t6 t7 x1 x2 x3 x4 x5 x6 x7 x8 x9 H c j3 r2) t2 t3 t4 t6 t7 x1 x2 x3 x4 x5 H c j3 r2) t2 t3 t4 t6 t7 x1 H c j3 r2
def j220_2 (c : Cx) : Nat → Nat → F5 := recN (fun _ _ _ _ _ _ _ => none) fun ih n2 => b220_2 c (ih n2) (j220_3 c) n2
theorem o220_2 (c : Cx) : d220_2 c = j220_2 c := by
  unfold j220_2
  refine recN_ok (by kernel_rfl) fun m => funext fun n2 => ?_
  simp only [← o220_3]
  funext t2 t3 t4 t6 t7 H
  refine Eq.trans (jnK_eq 562949953421532 _ _ H _) ?_
  kernel_rfl
def b220_1 (c : Cx) (j2 : Nat → Nat → F5) (t0 t1 t2 : V) (H : List Blk) : X := newK 3 H fun q H => (aBox (q + 0) t0).go H fun x1 H => (aBox (q + 1) t1).go H fun x2 H => (aAlloc (q + 2) z10).go H fun x3 H => (aLoad true 4 x1).go H fun x4 H => (aLoad true 2 x2).go H fun x5 H => p (aCall c.pc 224 [x4, x5]) fun x6 => (aStore 4 x1 x6).go H fun _ H => j2 c.n H.length t2 x1 x2 x3 (ci 0) H
def j220_1 (c : Cx) : F3 := b220_1 c (j220_2 c)
theorem o220_1 (c : Cx) : d220_1 c = j220_1 c := by
  unfold j220_1; rw [← o220_2]
  funext t0 t1 t2 H
  refine Eq.trans (stepK_jn c.pc c.ic c.n _ H _ 281474976710663 c220_1) ?_
  kernel_rfl
def b220_0 (c : Cx) (j1 : F3) (t0 t1 t2 : V) (H : List Blk) : X := j1 t0 t1 t2 H
def s220 (c : Cx) (args : List V) (H : List Blk) : X := argsK 3 args (b220_0 c (j220_1 c) (getT args 0) (getT args 1) (getT args 2) H)
theorem e220 (pc ic n args H) : runK pc ic n c220 args H = s220 ⟨pc, ic, n⟩ args H := by
  unfold s220; rw [← o220_1]
  kernel_rfl
def L220 : Leaf := ⟨c220, fun pc ic n => s220 ⟨pc, ic, n⟩, e220⟩
theorem kk220 : chkFn Go.Proofs.Tryz.prog ET 220 c220 = true := by kernel_rfl

def c221 : Fn := { fid := 221, np := 3, ntmps := 21, body := (.seq (.reg 1 none [o 3 (.box 0) [.t 0] 0, m 6 (.c (ci 0)) 1, m 7 (.c cf) 2]) (.seq (.reg 1 none [o 11 (.load true 4) [.t 3] 0, m 12 (.t 1) 1, o 13 (.call 16) [.t 11, .t 12] 2, m 10 (.t 13) 3, o 14 (.ext 0) [.t 10] 4, o 15 (.ext 1) [.t 10] 5, o 8 (.alloc 0 z1) [] 6, ⟨none, .store 8, [.t 8, .t 14], none, 0, 7⟩, m 9 (.t 15) 8]) (.seq (.reg 0 none [o 16 (.load true 8) [.t 8] 0, m 17 (.t 2) 1, o 18 (.call 44) [.t 16, .t 17] 2, o 19 (.ext 0) [.t 18] 3, o 20 (.ext 1) [.t 18] 4, m 6 (.t 19) 5, m 7 (.t 20) 6]) .ret))), res := [.tmp 6, .tmp 7] }
def b221_0 (c : Cx) (t0 t1 t2 : V) (H : List Blk) : X := newK 1 H fun q H => (aBox (q + 0) t0).go H fun x1 H => newK 1 H fun q H => (aLoad true 4 x1).go H fun x2 H => p (aCall c.pc 16 [x2, t1]) fun x3 => (fun (t2 x3 : V) (q : Nat) (H : L) (c : Cx) => p (aExt 0 x3) fun x4 => p (aExt 1 x3) fun x5 => (aAlloc (q + 0) z1).go H fun x6 H => (aStore 8 x6 x4).go H fun _ H => (aLoad true 8 x6).go H fun x7 H => p (aCall c.pc 44 [x7, t2]) fun x8 => p (aExt 0 x8) fun x9 => p (aExt 1 x8) fun x10 => some (.tup [x9, x10], H)) t2 x3 q H c
def s221 (c : Cx) (args : List V) (H : List Blk) : X := argsK 3 args (b221_0 c (getT args 0) (getT args 1) (getT args 2) H)
theorem e221 (pc ic n args H) : runK pc ic n c221 args H = s221 ⟨pc, ic, n⟩ args H := by
  unfold s221
  kernel_rfl
def L221 : Leaf := ⟨c221, fun pc ic n => s221 ⟨pc, ic, n⟩, e221⟩
theorem kk221 : chkFn Go.Proofs.Tryz.prog ET 221 c221 = true := by kernel_rfl

def c222_1 : C := (.seq (.reg 2 none [o 4 (.box 0) [.t 0] 0, o 8 (.alloc 1 z0) [] 1]) (.seq (.reg 1 none [o 12 (.load true 4) [.t 4] 0, m 13 (.t 1) 1, o 14 (.call 16) [.t 12, .t 13] 2, m 11 (.t 14) 3, o 15 (.ext 0) [.t 11] 4, o 16 (.ext 1) [.t 11] 5, o 9 (.alloc 0 z1) [] 6, ⟨none, .store 8, [.t 9, .t 15], none, 0, 7⟩, m 10 (.t 16) 8]) (.seq (.reg 0 (some ⟨true, [], 23⟩) [o 17 (.load true 4) [.t 4] 0, o 18 (.load true 8) [.t 9] 1, m 19 (.t 2) 2, m 20 (.t 3) 3, ⟨some 21, .call 105, [.t 18, .t 19, .t 20], none, 14, 4⟩, ⟨some 22, .call 103, [.t 17, .t 21], none, 31, 5⟩, ⟨none, .store 4, [.t 8, .t 22], none, 63, 6⟩]) .ret)))
def c222 : Fn := { fid := 222, np := 4, ntmps := 23, body := (.jn 8388623 c222_1), res := [.cell 8 true 4] }
def L222 : Leaf := coldL c222
theorem kk222 : chkFn Go.Proofs.Tryz.prog ET 222 c222 = true := by kernel_rfl

def c224_2 : C := (.seq (.seq (.reg 0 none [m 7 (.t 6) 0, o 8 (.fld 1) [.t 2] 1, o 9 (.load false 1) [.t 8] 2, o 10 (.len 1) [.t 9] 3, o 11 (.bin .lss) [.t 7, .t 10] 4]) (.cond (.t 11) .skip (.exit 0))) (.seq (.blk 1 (.seq (.reg 0 (some ⟨true, [], 33⟩) [o 14 (.fld 1) [.t 2] 0, ⟨some 15, .load false 1, [.t 14], none, 1, 1⟩, m 16 (.t 6) 2, ⟨some 17, .ix 3, [.t 15, .t 16], none, 7, 3⟩, ⟨some 18, .fld 0, [.t 17], none, 15, 4⟩, ⟨some 19, .load true 2, [.t 18], none, 31, 5⟩, o 20 (.load true 2) [.t 3] 6, ⟨some 21, .beq true [0, 0], [.t 19, .t 20], none, 127, 7⟩]) (.cond (.t 21) (.reg 1 none [m 22 (.t 5) 0, o 23 (.fld 1) [.t 2] 1, o 24 (.load false 1) [.t 23] 2, m 25 (.t 6) 3, o 26 (.ix 3) [.t 24, .t 25] 4, o 27 (.load true 3) [.t 26] 5, o 28 (.bsl 3 z12 1 [0]) [.t 27] 6, o 29 (.app 0 3 24) [.t 22, .t 28] 7, m 5 (.t 29) 8]) .skip))) (.reg 0 none [m 12 (.t 6) 0, o 13 (.bin .add) [.t 12, .c (ci 1)] 1, m 6 (.t 13) 2])))
def c224_s1 : C := (.seq (.reg 0 none [m 30 (.t 5) 0, o 31 (.fld 1) [.t 2] 1, ⟨none, .store 1, [.t 31, .t 30], none, 0, 2⟩]) (.seq (.reg 0 none [o 32 (.load true 4) [.t 2] 0, ⟨none, .store 4, [.t 4, .t 32], none, 0, 1⟩]) .ret))
def c224_1 : C := (.seq (.reg 3 none [o 2 (.box 0) [.t 0] 0, o 3 (.box 1) [.t 1] 1, o 4 (.alloc 2 z10) [] 2]) (.seq (.reg 0 none [m 5 (.c .nilS) 0]) (.seq (.seq (.reg 0 none [m 6 (.c (ci 0)) 0]) (.blk 0 (.loop 17179869308 false c224_2))) c224_s1)))
def c224 : Fn := { fid := 224, np := 2, ntmps := 33, body := (.jn 8589934595 c224_1), res := [.cell 4 true 4] }
def d224_1 (c : Cx) (t0 t1 : V) (H : List Blk) : X := stepK c.pc c.ic c.n (.jn 8589934595 c224_1) (cn 0 33 [(0, t0), (1, t1)]) H (kTop c224.res)
def k224_1 (c : Cx) : KT := thenK (stepK c.pc c.ic c.n c224_s1) (kTop c224.res)
def k224_2 (c : Cx) : KT := blkK 0 (k224_1 c)
def d224_2 (c : Cx) (m n2 : Nat) (t2 t3 t4 t5 t6 : V) (H : List Blk) : X := jnK (loopsK (stepK c.pc c.ic c.n c224_2) 17179869308 false n2 m) (cn 0 33 [(2, t2), (3, t3), (4, t4), (5, t5), (6, t6)]) H (k224_2 c) 17179869308
def b224_2 (c : Cx) (r2 : F5) (n2 : Nat) (t2 t3 t4 t5 t6 : V) (H : List Blk) : X := p (aFld 1 t2) fun x1 => (aLoad false 1 x1).go H fun x2 H => (aLen 1 x2).go H fun x3 H => p (aBin .lss t6 x3) fun x4 => condK x4 ((fun (t2 t3 t4 t5 t6 : V) (H : L) (r2 : F5) => p (aFld 1 t2) fun x5 => (aLoad false 1 x5).go H fun x6 H => p (aIx 3 x6 t6) fun x7 => (fun (t2 t3 t4 t5 t6 x7 : V) (H : L) (r2 : F5) => p (aFld 0 x7) fun x8 => (aLoad true 2 x8).go H fun x9 H => (aLoad true 2 t3).go H fun x10 H => p (aBeq true [0, 0] x9 x10) fun x11 => condK x11 ((fun (t2 t3 t4 t5 t6 : V) (H : L) (r2 : F5) => newK 1 H fun q H => p (aFld 1 t2) fun x12 => (aLoad false 1 x12).go H fun x13 H => (fun (t2 t3 t4 t5 t6 x13 : V) (q : Nat) (H : L) (r2 : F5) => p (aIx 3 x13 t6) fun x14 => (aLoad true 3 x14).go H fun x15 H => p (aBsl 3 z12 1 [0] [x15]) fun x16 => (aApp (q + 0) 3 24 t5 x16).go H fun x17 H => p (aBin .add t6 (ci 1)) fun x18 => r2 t2 t3 t4 x17 x18 H) t2 t3 t4 t5 t6 x13 q H r2) t2 t3 t4 t5 t6 H r2) (p (aBin .add t6 (ci 1)) fun x19 => r2 t2 t3 t4 t5 x19 H)) t2 t3 t4 t5 t6 x7 H r2) t2 t3 t4 t5 t6 H r2) ((fun (t2 t4 t5 : V) (H : L) => p (aFld 1 t2) fun x20 => (aStore 1 x20 t5).go H fun _ H => (aLoad true 4 t2).go H fun x21 H => (aStore 4 t4 x21).go H fun _ H => bnd (loadV true 4 t4 H) fun x22 => some (x22, H)) t2 t4 t5 H)
def j224_2 (c : Cx) : Nat → Nat → F5 := recN (fun _ _ _ _ _ _ _ => none) fun ih n2 => b224_2 c (ih n2) n2
theorem o224_2 (c : Cx) : d224_2 c = j224_2 c := by
  unfold j224_2
  refine recN_ok (by kernel_rfl) fun m => funext fun n2 => ?_
  funext t2 t3 t4 t5 t6 H
  refine Eq.trans (jnK_eq 17179869308 _ _ H _) ?_
  kernel_rfl
def b224_1 (c : Cx) (j2 : Nat → Nat → F5) (t0 t1 : V) (H : List Blk) : X := newK 3 H fun q H => (aBox (q + 0) t0).go H fun x1 H => (aBox (q + 1) t1).go H fun x2 H => (aAlloc (q + 2) z10).go H fun x3 H => j2 c.n H.length x1 x2 x3 .nilS (ci 0) H
def j224_1 (c : Cx) : F2 := b224_1 c (j224_2 c)
theorem o224_1 (c : Cx) : d224_1 c = j224_1 c := by
  unfold j224_1; rw [← o224_2]
  funext t0 t1 H
  refine Eq.trans (stepK_jn c.pc c.ic c.n _ H _ 8589934595 c224_1) ?_
  kernel_rfl
def b224_0 (c : Cx) (j1 : F2) (t0 t1 : V) (H : List Blk) : X := j1 t0 t1 H
def s224 (c : Cx) (args : List V) (H : List Blk) : X := argsK 2 args (b224_0 c (j224_1 c) (getT args 0) (getT args 1) H)
theorem e224 (pc ic n args H) : runK pc ic n c224 args H = s224 ⟨pc, ic, n⟩ args H := by
  unfold s224; rw [← o224_1]
  kernel_rfl
def L224 : Leaf := ⟨c224, fun pc ic n => s224 ⟨pc, ic, n⟩, e224⟩
theorem kk224 : chkFn Go.Proofs.Tryz.prog ET 224 c224 = true := by kernel_rfl

def c225 : Fn := { fid := 225, np := 3, ntmps := 12, body := (.seq (.reg 1 none [o 3 (.box 0) [.t 0] 0, m 6 (.c cf) 1]) (.seq (.reg 0 (some ⟨true, [], 12⟩) [o 7 (.load true 4) [.t 3] 0, m 8 (.t 1) 1, m 9 (.t 2) 2, ⟨some 10, .call 218, [.t 9], none, 4, 3⟩, ⟨some 11, .call 281, [.t 7, .t 8, .t 10], none, 15, 4⟩, ⟨some 6, .mov, [.t 11], none, 31, 5⟩]) .ret)), res := [.tmp 6] }
def b225_0 (c : Cx) (t0 t1 t2 : V) (H : List Blk) : X := newK 1 H fun q H => (aBox (q + 0) t0).go H fun x1 H => (aLoad true 4 x1).go H fun x2 H => p (aCall c.pc 218 [t2]) fun x3 => p (aCall c.pc 281 [x2, t1, x3]) fun x4 => some (x4, H)
def s225 (c : Cx) (args : List V) (H : List Blk) : X := argsK 3 args (b225_0 c (getT args 0) (getT args 1) (getT args 2) H)
theorem e225 (pc ic n args H) : runK pc ic n c225 args H = s225 ⟨pc, ic, n⟩ args H := by
  unfold s225
  kernel_rfl
def L225 : Leaf := ⟨c225, fun pc ic n => s225 ⟨pc, ic, n⟩, e225⟩
theorem kk225 : chkFn Go.Proofs.Tryz.prog ET 225 c225 = true := by kernel_rfl

def c226_1 : C := (.seq (.reg 2 none [o 4 (.box 0) [.t 0] 0, o 8 (.alloc 1 z14) [] 1, m 9 (.c (ci 0)) 2]) (.seq (.reg 1 none [o 14 (.fld 2) [.t 4] 0, o 15 (.load false 1) [.t 14] 1, m 16 (.t 1) 2, o 17 (.ix 4) [.t 15, .t 16] 3, o 18 (.load true 4) [.t 17] 4, m 19 (.t 2) 5, m 20 (.t 3) 6, o 21 (.build z1 [(1, 1)]) [.c (ci 1)] 7, o 22 (.call 150) [.t 18, .t 19, .t 20, .t 21] 8, m 13 (.t 22) 9, o 23 (.ext 0) [.t 13] 10, o 24 (.ext 1) [.t 13] 11, o 25 (.ext 2) [.t 13] 12, o 10 (.alloc 0 z0) [] 13, ⟨none, .store 4, [.t 10, .t 23], none, 0, 14⟩, m 11 (.t 24) 15, m 12 (.t 25) 16]) (.seq (.seq (.reg 0 none [m 26 (.t 12) 0, o 27 (.bin .neq) [.t 26, .c (ci 0)] 1]) (.cond (.t 27) (.seq (.reg 0 none [o 28 (.load true 7) [.t 4] 0, m 29 (.t 12) 1, ⟨none, .store 7, [.t 8, .t 28], none, 0, 2⟩, m 9 (.t 29) 3]) .ret) .skip)) (.seq (.reg 0 none [o 30 (.load true 7) [.t 4] 0, m 31 (.t 1) 1, o 32 (.load true 4) [.t 10] 2, o 33 (.call 134) [.t 30, .t 31, .t 32] 3, ⟨none, .store 7, [.t 8, .t 33], none, 0, 4⟩, m 9 (.c (ci 0)) 5]) .ret))))
def c226 : Fn := { fid := 226, np := 4, ntmps := 34, body := (.jn 17179869199 c226_1), res := [.cell 8 true 7, .tmp 9] }
def L226 : Leaf := coldL c226
theorem kk226 : chkFn Go.Proofs.Tryz.prog ET 226 c226 = true := by kernel_rfl

def c227_4 : C := (.reg 0 none [m 48 (.t 7) 0, o 49 (.load true 7) [.t 3] 1, m 50 (.t 10) 2, m 51 (.t 2) 3, o 52 (.call 227) [.t 49, .t 50, .t 51] 4, o 53 (.bin .add) [.t 48, .t 52] 5, m 7 (.t 53) 6])
def c227_3 : C := (.seq (.seq (.reg 0 none [m 43 (.t 11) 0, m 44 (.t 2) 1, o 45 (.bin .eql) [.t 43, .t 44] 2]) (.cond (.t 45) (.reg 0 none [m 46 (.t 7) 0, o 47 (.bin .add) [.t 46, .c (ci 1)] 1, m 7 (.t 47) 2]) .skip)) (.jn 144115188075857806 c227_4))
def c227_s1 : C := (.reg 0 none [m 26 (.t 9) 0, o 27 (.bin .add) [.t 26, .c (ci 1)] 1, m 9 (.t 27) 2])
def l227_0 : List O := [o 36 (.load true 7) [.t 3] 0, m 37 (.t 10) 1, ⟨some 38, .ix 2, [.t 37, .c (ci 0)], none, 2, 2⟩, ⟨some 39, .load true 2, [.t 38], none, 6, 3⟩, ⟨some 40, .call 19, [.t 36, .t 39], none, 15, 4⟩, ⟨some 35, .mov, [.t 40], none, 31, 5⟩, ⟨some 41, .ext 0, [.t 35], none, 63, 6⟩, ⟨some 42, .ext 1, [.t 35], none, 63, 7⟩, o 12 (.alloc 0 z1) [] 8, ⟨some 11, .mov, [.t 41], none, 383, 9⟩, ⟨none, .store 8, [.t 12, .t 42], none, 1023, 10⟩]
def c227_2 : C := (.seq (.seq (.reg 0 none [m 22 (.t 9) 0, m 23 (.t 8) 1, o 24 (.len 1) [.t 23] 2, o 25 (.bin .lss) [.t 22, .t 24] 3]) (.cond (.t 25) .skip (.exit 0))) (.seq (.blk 1 (.seq (.reg 0 (some ⟨true, [], 55⟩) [o 28 (.load true 7) [.t 3] 0, m 29 (.t 1) 1, m 30 (.t 8) 2, m 31 (.t 9) 3, ⟨some 32, .ix 1, [.t 30, .t 31], none, 12, 4⟩, ⟨some 33, .load false 1, [.t 32], none, 28, 5⟩, ⟨some 34, .call 47, [.t 28, .t 29, .t 33], none, 63, 6⟩, ⟨some 10, .mov, [.t 34], none, 127, 7⟩]) (.seq (.reg 1 (some ⟨false, [0, 1, 2, 3, 4, 5, 6, 8, 9, 7, 10], 55⟩) l227_0) (.jn 108086391056895886 c227_3)))) c227_s1))
def c227_s2 : C := (.seq (.reg 0 none [m 54 (.t 7) 0, m 6 (.t 54) 1]) .ret)
def c227_1 : C := (.seq (.reg 1 none [o 3 (.box 0) [.t 0] 0, m 6 (.c (ci 0)) 1]) (.seq (.seq (.reg 0 (some ⟨true, [], 55⟩) [o 13 (.load true 7) [.t 3] 0, m 14 (.t 1) 1, ⟨some 15, .ix 2, [.t 14, .c (ci 0)], none, 2, 2⟩, ⟨some 16, .load true 2, [.t 15], none, 6, 3⟩, ⟨some 17, .call 46, [.t 13, .t 16], none, 15, 4⟩, ⟨some 18, .un .not, [.t 17], none, 31, 5⟩]) (.cond (.t 18) (.seq (.reg 0 none [m 6 (.c (ci 0)) 0]) .ret) .skip)) (.seq (.reg 0 none [m 7 (.c (ci 0)) 0]) (.seq (.reg 0 none [o 19 (.load true 7) [.t 3] 0, m 20 (.t 1) 1, o 21 (.call 104) [.t 19, .t 20] 2, m 8 (.t 21) 3]) (.seq (.seq (.reg 0 none [m 9 (.c (ci 0)) 0]) (.blk 0 (.loop 72057594037928846 true c227_2))) c227_s2)))))
def c227 : Fn := { fid := 227, np := 3, ntmps := 55, body := (.jn 36028797018963975 c227_1), res := [.tmp 6] }
def d227_1 (c : Cx) (t0 t1 t2 : V) (H : List Blk) : X := stepK c.pc c.ic c.n (.jn 36028797018963975 c227_1) (cn 0 55 [(0, t0), (1, t1), (2, t2)]) H (kTop c227.res)
def k227_1 (c : Cx) : KT := thenK (stepK c.pc c.ic c.n c227_s2) (kTop c227.res)
def k227_2 (c : Cx) : KT := blkK 0 (k227_1 c)
def d227_2 (c : Cx) (m n2 : Nat) (t1 t2 t3 t7 t8 t9 : V) (H : List Blk) : X := jnK (loopsK (stepK c.pc c.ic c.n c227_2) 72057594037928846 true n2 m) (cn 0 55 [(1, t1), (2, t2), (3, t3), (7, t7), (8, t8), (9, t9)]) H (k227_2 c) 72057594037928846
def k227_3 (c : Cx) (m2 n2 : Nat) : KT := thenK (fun ts H k => jnK (loopsK (stepK c.pc c.ic c.n c227_2) 72057594037928846 true n2 m2) (maskT 72057594037928846 0 ts) H k 72057594037928846) (k227_2 c)
def k227_4 (c : Cx) (m2 n2 : Nat) : KT := thenK (stepK c.pc c.ic c.n c227_s1) (k227_3 c m2 n2)
def k227_5 (c : Cx) (m2 n2 : Nat) : KT := blkK 1 (k227_4 c m2 n2)
def d227_3 (c : Cx) (m2 n2 : Nat) (t1 t2 t3 t7 t8 t9 t10 t11 : V) (H : List Blk) : X := stepK c.pc c.ic c.n (.jn 108086391056895886 c227_3) (cn 0 55 [(1, t1), (2, t2), (3, t3), (7, t7), (8, t8), (9, t9), (10, t10), (11, t11)]) H (k227_5 c m2 n2)
def d227_4 (c : Cx) (m2 n2 : Nat) (t1 t2 t3 t7 t8 t9 t10 : V) (H : List Blk) : X := stepK c.pc c.ic c.n (.jn 144115188075857806 c227_4) (cn 0 55 [(1, t1), (2, t2), (3, t3), (7, t7), (8, t8), (9, t9), (10, t10)]) H (k227_5 c m2 n2)
def b227_4 (c : Cx) (r2 : F6) (t1 t2 t3 t7 t8 t9 t10 : V) (H : List Blk) : X := (aLoad true 7 t3).go H fun x1 H => p (aCall c.pc 227 [x1, t10, t2]) fun x2 => p (aBin .add t7 x2) fun x3 => p (aBin .add t9 (ci 1)) fun x4 => r2 t1 t2 t3 x3 t8 x4 H
def j227_4 (c : Cx) (r2 : F6) : F7 := b227_4 c r2
theorem o227_4 (c : Cx) (m2 n2 : Nat) : d227_4 c m2 n2 = j227_4 c (d227_2 c m2 n2) := by
  unfold j227_4
  funext t1 t2 t3 t7 t8 t9 t10 H
  refine Eq.trans (stepK_jn c.pc c.ic c.n _ H _ 144115188075857806 c227_4) ?_
  kernel_rfl
def b227_3 (c : Cx) (j4 : F7) (t1 t2 t3 t7 t8 t9 t10 t11 : V) (H : List Blk) : X := p (aBin .eql t11 t2) fun x1 => condK x1 (p (aBin .add t7 (ci 1)) fun x2 => j4 t1 t2 t3 x2 t8 t9 t10 H) (j4 t1 t2 t3 t7 t8 t9 t10 H)
def j227_3 (c : Cx) (r2 : F6) : F8 := b227_3 c (j227_4 c r2)
theorem o227_3 (c : Cx) (m2 n2 : Nat) : d227_3 c m2 n2 = j227_3 c (d227_2 c m2 n2) := by
  unfold j227_3; rw [← o227_4]
  funext t1 t2 t3 t7 t8 t9 t10 t11 H
  refine Eq.trans (stepK_jn c.pc c.ic c.n _ H _ 108086391056895886 c227_3) ?_
  kernel_rfl
def b227_2 (c : Cx) (j3 : F8) (n2 : Nat) (t1 t2 t3 t7 t8 t9 : V) (H : List Blk) : X := bnd (trimF true n2 [t1, t2, t3, t7, t8, t9] H) fun H => (aLen 1 t8).go H fun x1 H => p (aBin .lss t9 x1) fun x2 => condK x2 ((fun (t1 t2 t3 t7 t8 t9 x1 x2 : V) (H : L) (c : Cx) (j3 : F8) => (aLoad true 7 t3).go H fun x3 H => p (aIx 1 t8 t9) fun x4 => (aLoad false 1 x4).go H fun x5 H => p (aCall c.pc 47 [x3, t1, x5]) fun x6 => newK 1 H fun q H => drawnK c.pc c.ic l227_0 q (cn 0 55 [(1, t1), (2, t2), (3, t3), (7, t7), (8, t8), (9, t9), (10, x6), (22, t9), (23, t8), (24, x1), (25, x2), (28, x3), (29, t1), (30, t8), (31, t9), (32, x4), (33, x5), (34, x6)]) H fun ts6 H => j3 (getT ts6 1) (getT ts6 2) (getT ts6 3) (getT ts6 7) (getT ts6 8) (getT ts6 9) (getT ts6 10) (getT ts6 11) H) t1 t2 t3 t7 t8 t9 x1 x2 H c j3) (some (t7, H))
def j227_2 (c : Cx) : Nat → Nat → F6 := recN (fun _ _ _ _ _ _ _ _ => none) fun ih n2 => b227_2 c (j227_3 c (ih n2)) n2
theorem o227_2 (c : Cx) : d227_2 c = j227_2 c := by
  unfold j227_2
  refine recN_ok (by kernel_rfl) fun m => funext fun n2 => ?_
  simp only [← o227_3]
  funext t1 t2 t3 t7 t8 t9 H
  refine Eq.trans (jnK_eq 72057594037928846 _ _ H _) ?_
  kernel_rfl
def b227_1 (c : Cx) (j2 : Nat → Nat → F6) (t0 t1 t2 : V) (H : List Blk) : X := newK 1 H fun q H => (aBox (q + 0) t0).go H fun x1 H => (aLoad true 7 x1).go H fun x2 H => (fun (t1 t2 x1 x2 : V) (H : L) (c : Cx) (j2 : Nat → Nat → F6) => p (aIx 2 t1 (ci 0)) fun x3 => (aLoad true 2 x3).go H fun x4 H => p (aCall c.pc 46 [x2, x4]) fun x5 => p (aUn .not x5) fun x6 => condK x6 (some ((ci 0), H)) ((aLoad true 7 x1).go H fun x7 H => p (aCall c.pc 104 [x7, t1]) fun x8 => j2 c.n H.length t1 t2 x1 (ci 0) x8 (ci 0) H)) t1 t2 x1 x2 H c j2
def j227_1 (c : Cx) : F3 := b227_1 c (j227_2 c)
theorem o227_1 (c : Cx) : d227_1 c = j227_1 c := by
  unfold j227_1; rw [← o227_2]
  funext t0 t1 t2 H
  refine Eq.trans (stepK_jn c.pc c.ic c.n _ H _ 36028797018963975 c227_1) ?_
  kernel_rfl
def b227_0 (c : Cx) (j1 : F3) (t0 t1 t2 : V) (H : List Blk) : X := j1 t0 t1 t2 H
def s227 (c : Cx) (args : List V) (H : List Blk) : X := argsK 3 args (b227_0 c (j227_1 c) (getT args 0) (getT args 1) (getT args 2) H)
theorem e227 (pc ic n args H) : runK pc ic n c227 args H = s227 ⟨pc, ic, n⟩ args H := by
  unfold s227; rw [← o227_1]
  kernel_rfl
def L227 : Leaf := ⟨c227, fun pc ic n => s227 ⟨pc, ic, n⟩, e227⟩
theorem kk227 : chkFn Go.Proofs.Tryz.prog ET 227 c227 = true := by kernel_rfl

def c228_1 : C := (.seq (.reg 1 none [o 2 (.box 0) [.t 0] 0, m 4 (.c (ci 0)) 1]) (.seq (.reg 1 none [o 10 (.fld 2) [.t 2] 0, o 11 (.load false 1) [.t 10] 1, m 12 (.t 1) 2, o 13 (.ix 4) [.t 11, .t 12] 3, o 14 (.load true 4) [.t 13] 4, o 15 (.call 16) [.t 14, .c (ci 1)] 5, m 9 (.t 15) 6, o 16 (.ext 0) [.t 9] 7, o 17 (.ext 1) [.t 9] 8, o 5 (.alloc 0 z1) [] 9, ⟨none, .store 8, [.t 5, .t 16], none, 0, 10⟩, m 6 (.t 17) 11]) (.seq (.reg 0 none [o 19 (.load true 8) [.t 5] 0, o 20 (.call 44) [.t 19, .c (.d (.str [46, 119, 104, 46, 46, 119, 104, 46, 104, 101, 108, 100]))] 1, m 18 (.t 20) 2, o 21 (.ext 0) [.t 18] 3, o 22 (.ext 1) [.t 18] 4, m 7 (.t 21) 5, m 8 (.t 22) 6]) (.seq (.reg 0 none [m 23 (.t 7) 0, m 4 (.t 23) 1]) .ret))))
def c228 : Fn := { fid := 228, np := 2, ntmps := 24, body := (.jn 16777219 c228_1), res := [.tmp 4] }
def L228 : Leaf := coldL c228
theorem kk228 : chkFn Go.Proofs.Tryz.prog ET 228 c228 = true := by kernel_rfl

def c229_2 : C := (.seq (.seq (.reg 0 none [m 7 (.t 6) 0, o 8 (.fld 2) [.t 2] 1, o 9 (.load false 1) [.t 8] 2, o 10 (.len 1) [.t 9] 3, o 11 (.bin .lss) [.t 7, .t 10] 4]) (.cond (.t 11) .skip (.exit 0))) (.seq (.blk 1 (.seq (.reg 0 none [o 14 (.fld 2) [.t 2] 0, o 15 (.load false 1) [.t 14] 1, m 16 (.t 6) 2, o 17 (.ix 3) [.t 15, .t 16] 3, o 18 (.fld 2) [.t 17] 4, o 19 (.load false 1) [.t 18] 5, m 20 (.t 1) 6, o 21 (.bin .neq) [.t 19, .t 20] 7]) (.cond (.t 21) (.reg 1 none [m 22 (.t 5) 0, o 23 (.fld 2) [.t 2] 1, o 24 (.load false 1) [.t 23] 2, m 25 (.t 6) 3, o 26 (.ix 3) [.t 24, .t 25] 4, o 27 (.load true 3) [.t 26] 5, o 28 (.bsl 3 z12 1 [0]) [.t 27] 6, o 29 (.app 0 3 24) [.t 22, .t 28] 7, m 5 (.t 29) 8]) .skip))) (.reg 0 none [m 12 (.t 6) 0, o 13 (.bin .add) [.t 12, .c (ci 1)] 1, m 6 (.t 13) 2])))
def c229_s1 : C := (.seq (.reg 0 none [m 30 (.t 5) 0, o 31 (.fld 2) [.t 2] 1, ⟨none, .store 1, [.t 31, .t 30], none, 0, 2⟩]) (.seq (.reg 0 none [o 32 (.load true 4) [.t 2] 0, ⟨none, .store 4, [.t 4, .t 32], none, 0, 1⟩]) .ret))
def c229_1 : C := (.seq (.reg 2 none [o 2 (.box 0) [.t 0] 0, o 4 (.alloc 1 z10) [] 1]) (.seq (.reg 0 none [m 5 (.c .nilS) 0]) (.seq (.seq (.reg 0 none [m 6 (.c (ci 0)) 0]) (.blk 0 (.loop 17179869302 false c229_2))) c229_s1)))
def c229 : Fn := { fid := 229, np := 2, ntmps := 33, body := (.jn 8589934595 c229_1), res := [.cell 4 true 4] }
def L229 : Leaf := coldL c229
theorem kk229 : chkFn Go.Proofs.Tryz.prog ET 229 c229 = true := by kernel_rfl

def c230_1 : C := (.seq (.reg 4 none [o 3 (.box 0) [.t 0] 0, o 5 (.box 1) [.t 2] 1, o 6 (.alloc 2 z14) [] 2, o 7 (.alloc 3 [(ci 0), (ci 0)]) [] 3, m 8 (.c (ci 0)) 4]) (.seq (.reg 0 none [o 13 (.fld 0) [.t 3] 0, o 14 (.load true 2) [.t 13] 1, o 15 (.fld 0) [.t 5] 2, o 16 (.load false 1) [.t 15] 3, o 17 (.call 139) [.t 14, .t 16] 4, m 9 (.t 17) 5]) (.seq (.reg 1 none [o 19 (.load true 7) [.t 3] 0, m 20 (.t 1) 1, m 21 (.t 9) 2, o 22 (.call 132) [.t 19, .t 20, .t 21] 3, m 18 (.t 22) 4, o 23 (.ext 0) [.t 18] 5, o 24 (.ext 1) [.t 18] 6, o 25 (.ext 2) [.t 18] 7, o 10 (.alloc 0 z14) [] 8, ⟨none, .store 7, [.t 10, .t 23], none, 0, 9⟩, m 11 (.t 24) 10, m 12 (.t 25) 11]) (.seq (.seq (.reg 0 none [m 26 (.t 12) 0, o 27 (.bin .neq) [.t 26, .c (ci 0)] 1]) (.cond (.t 27) (.seq (.reg 0 none [o 28 (.load true 7) [.t 3] 0, o 29 (.build [(ci 0), (ci 0)] []) [] 1, m 30 (.t 12) 2, ⟨none, .store 7, [.t 6, .t 28], none, 0, 3⟩, ⟨none, .store 2, [.t 7, .t 29], none, 0, 4⟩, m 8 (.t 30) 5]) .ret) .skip)) (.seq (.reg 0 none [o 31 (.load true 7) [.t 10] 0, m 32 (.t 9) 1, m 33 (.t 11) 2, o 34 (.build [(ci 0), (ci 0)] [(0, 1), (1, 1)]) [.t 32, .t 33] 3, ⟨none, .store 7, [.t 6, .t 31], none, 0, 4⟩, ⟨none, .store 2, [.t 7, .t 34], none, 0, 5⟩, m 8 (.c (ci 0)) 6]) .ret)))))
def c230 : Fn := { fid := 230, np := 3, ntmps := 35, body := (.jn 34359738375 c230_1), res := [.cell 6 true 7, .cell 7 true 2, .tmp 8] }
def L230 : Leaf := coldL c230
theorem kk230 : chkFn Go.Proofs.Tryz.prog ET 230 c230 = true := by kernel_rfl

def c235 : Fn := { fid := 235, np := 1, ntmps := 9, body := (.seq (.reg 1 none [o 1 (.box 0) [.t 0] 0, m 2 (.c (ci 0)) 1]) (.seq (.seq (.reg 0 none [o 3 (.fld 1) [.t 1] 0, o 4 (.load false 1) [.t 3] 1]) (.blk 0 (.seq (.reg 0 none [o 6 (.bin .eql) [.t 4, .c (ci 2)] 0, m 5 (.t 6) 1]) (.cond (.t 5) (.seq (.reg 0 none [m 2 (.c (ci 5)) 0]) .ret) (.seq (.reg 0 none [o 8 (.bin .eql) [.t 4, .c (ci 3)] 0, m 7 (.t 8) 1]) (.cond (.t 7) (.seq (.reg 0 none [m 2 (.c (ci 1)) 0]) .ret) .skip)))))) (.seq (.reg 0 none [m 2 (.c (ci 0)) 0]) .ret))), res := [.tmp 2] }
def L235 : Leaf := coldL c235
theorem kk235 : chkFn Go.Proofs.Tryz.prog ET 235 c235 = true := by kernel_rfl

def c236_2 : C := (.seq (.seq (.reg 0 none [m 6 (.t 5) 0, o 7 (.fld 3) [.t 1] 1, o 8 (.load false 1) [.t 7] 2, o 9 (.len 1) [.t 8] 3, o 10 (.bin .lss) [.t 6, .t 9] 4]) (.cond (.t 10) .skip (.exit 0))) (.seq (.blk 1 (.reg 0 none [m 13 (.t 4) 0, o 14 (.fld 3) [.t 1] 1, o 15 (.load false 1) [.t 14] 2, m 16 (.t 5) 3, o 17 (.ix 8) [.t 15, .t 16] 4, o 18 (.fld 4) [.t 17] 5, o 19 (.fld 1) [.t 18] 6, o 20 (.load false 1) [.t 19] 7, o 21 (.len 1) [.t 20] 8, o 22 (.bin .add) [.t 13, .t 21] 9, m 4 (.t 22) 10])) (.reg 0 none [m 11 (.t 5) 0, o 12 (.bin .add) [.t 11, .c (ci 1)] 1, m 5 (.t 12) 2])))
def c236_s1 : C := (.seq (.reg 0 (some ⟨true, [0, 1, 2, 3, 4, 5], 27⟩) [m 23 (.t 4) 0, o 24 (.fld 3) [.t 1] 1, ⟨some 25, .load false 1, [.t 24], none, 2, 2⟩, ⟨some 26, .len 1, [.t 25], none, 6, 3⟩, ⟨some 2, .mov, [.t 23], none, 1, 4⟩, ⟨some 3, .mov, [.t 26], none, 31, 5⟩]) .ret)
def c236_1 : C := (.seq (.reg 1 none [o 1 (.box 0) [.t 0] 0, m 2 (.c (ci 0)) 1, m 3 (.c (ci 0)) 2]) (.seq (.reg 0 none [m 4 (.c (ci 0)) 0]) (.seq (.seq (.reg 0 none [m 5 (.c (ci 0)) 0]) (.blk 0 (.loop 268435506 false c236_2))) c236_s1)))
def c236 : Fn := { fid := 236, np := 1, ntmps := 27, body := (.jn 134217729 c236_1), res := [.tmp 2, .tmp 3] }
def d236_1 (c : Cx) (t0 : V) (H : List Blk) : X := stepK c.pc c.ic c.n (.jn 134217729 c236_1) (cn 0 27 [(0, t0)]) H (kTop c236.res)
def k236_1 (c : Cx) : KT := thenK (stepK c.pc c.ic c.n c236_s1) (kTop c236.res)
def k236_2 (c : Cx) : KT := blkK 0 (k236_1 c)
def d236_2 (c : Cx) (m n2 : Nat) (t1 t4 t5 : V) (H : List Blk) : X := jnK (loopsK (stepK c.pc c.ic c.n c236_2) 268435506 false n2 m) (cn 0 27 [(1, t1), (4, t4), (5, t5)]) H (k236_2 c) 268435506
def b236_2 (c : Cx) (r2 : F3) (n2 : Nat) (t1 t4 t5 : V) (H : List Blk) : X := p (aFld 3 t1) fun x1 => (aLoad false 1 x1).go H fun x2 H => (aLen 1 x2).go H fun x3 H => p (aBin .lss t5 x3) fun x4 => condK x4 ((fun (t1 t4 t5 : V) (H : L) (r2 : F3) => p (aFld 3 t1) fun x5 => (aLoad false 1 x5).go H fun x6 H => p (aIx 8 x6 t5) fun x7 => p (aFld 4 x7) fun x8 => (fun (t1 t4 t5 x8 : V) (H : L) (r2 : F3) => p (aFld 1 x8) fun x9 => (aLoad false 1 x9).go H fun x10 H => (aLen 1 x10).go H fun x11 H => p (aBin .add t4 x11) fun x12 => p (aBin .add t5 (ci 1)) fun x13 => r2 t1 x12 x13 H) t1 t4 t5 x8 H r2) t1 t4 t5 H r2) (p (aFld 3 t1) fun x14 => (aLoad false 1 x14).go H fun x15 H => (aLen 1 x15).go H fun x16 H => some (.tup [t4, x16], H))
def j236_2 (c : Cx) : Nat → Nat → F3 := recN (fun _ _ _ _ _ => none) fun ih n2 => b236_2 c (ih n2) n2
theorem o236_2 (c : Cx) : d236_2 c = j236_2 c := by
  unfold j236_2
  refine recN_ok (by kernel_rfl) fun m => funext fun n2 => ?_
  funext t1 t4 t5 H
  refine Eq.trans (jnK_eq 268435506 _ _ H _) ?_
  kernel_rfl
def b236_1 (c : Cx) (j2 : Nat → Nat → F3) (t0 : V) (H : List Blk) : X := newK 1 H fun q H => (aBox (q + 0) t0).go H fun x1 H => j2 c.n H.length x1 (ci 0) (ci 0) H
def j236_1 (c : Cx) : F1 := b236_1 c (j236_2 c)
theorem o236_1 (c : Cx) : d236_1 c = j236_1 c := by
  unfold j236_1; rw [← o236_2]
  funext t0 H
  refine Eq.trans (stepK_jn c.pc c.ic c.n _ H _ 134217729 c236_1) ?_
  kernel_rfl
def b236_0 (c : Cx) (j1 : F1) (t0 : V) (H : List Blk) : X := j1 t0 H
def s236 (c : Cx) (args : List V) (H : List Blk) : X := argsK 1 args (b236_0 c (j236_1 c) (getT args 0) H)
theorem e236 (pc ic n args H) : runK pc ic n c236 args H = s236 ⟨pc, ic, n⟩ args H := by
  unfold s236; rw [← o236_1]
  kernel_rfl
def L236 : Leaf := ⟨c236, fun pc ic n => s236 ⟨pc, ic, n⟩, e236⟩
theorem kk236 : chkFn Go.Proofs.Tryz.prog ET 236 c236 = true := by kernel_rfl

def c237_2 : C := (.seq (.seq (.reg 0 none [m 11 (.t 2) 0, o 12 (.bin .gtr) [.t 11, .c (ci 0)] 1, m 13 (.t 12) 2, ⟨some 14, .mov, [.t 8], some (13, true), 0, 3⟩, ⟨some 15, .mov, [.t 1], some (13, true), 0, 4⟩, ⟨some 16, .mov, [.t 2], some (13, true), 0, 5⟩, ⟨some 17, .bin .add, [.t 15, .t 16], some (13, true), 0, 6⟩, ⟨some 18, .bin .sub, [.t 17, .c (ci 1)], some (13, true), 0, 7⟩, ⟨some 19, .bin .quo, [.t 18, .c (ci 16)], some (13, true), 0, 8⟩, ⟨some 20, .bin .leq, [.t 14, .t 19], some (13, true), 0, 9⟩, o 21 .pick [.t 13, .t 20, .c cf] 10]) (.cond (.t 21) .skip (.exit 0))) (.seq (.blk 1 (.seq (.reg 0 none [o 24 (.load true 2) [.t 3] 0, m 25 (.t 8) 1, o 26 (.call 283) [.t 24, .t 25] 2, o 27 (.bin .lss) [.t 26, .c (ci 0)] 3]) (.cond (.t 27) (.reg 0 none [m 28 (.t 7) 0, o 29 (.bin .add) [.t 28, .c (ci 1)] 1, m 7 (.t 29) 2]) .skip))) (.reg 0 none [m 22 (.t 8) 0, o 23 (.bin .add) [.t 22, .c (ci 1)] 1, m 8 (.t 23) 2])))
def c237_s1 : C := (.seq (.reg 0 none [m 30 (.t 7) 0, m 6 (.t 30) 1]) .ret)
def c237_1 : C := (.seq (.reg 1 none [o 3 (.box 0) [.t 0] 0, m 6 (.c (ci 0)) 1]) (.seq (.reg 0 none [m 7 (.c (ci 0)) 0]) (.seq (.seq (.reg 0 none [m 9 (.t 1) 0, o 10 (.bin .quo) [.t 9, .c (ci 16)] 1, m 8 (.t 10) 2]) (.blk 0 (.loop 4294967694 false c237_2))) c237_s1)))
def c237 : Fn := { fid := 237, np := 3, ntmps := 31, body := (.jn 2147483655 c237_1), res := [.tmp 6] }
def d237_1 (c : Cx) (t0 t1 t2 : V) (H : List Blk) : X := stepK c.pc c.ic c.n (.jn 2147483655 c237_1) (cn 0 31 [(0, t0), (1, t1), (2, t2)]) H (kTop c237.res)
def k237_1 (c : Cx) : KT := thenK (stepK c.pc c.ic c.n c237_s1) (kTop c237.res)
def k237_2 (c : Cx) : KT := blkK 0 (k237_1 c)
def d237_2 (c : Cx) (m n2 : Nat) (t1 t2 t3 t7 t8 : V) (H : List Blk) : X := jnK (loopsK (stepK c.pc c.ic c.n c237_2) 4294967694 false n2 m) (cn 0 31 [(1, t1), (2, t2), (3, t3), (7, t7), (8, t8)]) H (k237_2 c) 4294967694
def b237_2 (c : Cx) (r2 : F5) (n2 : Nat) (t1 t2 t3 t7 t8 : V) (H : List Blk) : X := p (aBin .gtr t2 (ci 0)) fun x1 => (fun (t1 t2 t3 t7 t8 x1 : V) (H : L) (c : Cx) (r2 : F5) => guardK x1 true (fun k => (aMov t8).go H k) H fun x2 H => guardK x1 true (fun k => (aMov t1).go H k) H fun x3 H => guardK x1 true (fun k => (aMov t2).go H k) H fun x4 H => guardK x1 true (fun k => (aBin .add x3 x4).go H k) H fun x5 H => (fun (t1 t2 t3 t7 t8 x1 x2 x5 : V) (H : L) (c : Cx) (r2 : F5) => guardK x1 true (fun k => (aBin .sub x5 (ci 1)).go H k) H fun x6 H => guardK x1 true (fun k => (aBin .quo x6 (ci 16)).go H k) H fun x7 H => guardK x1 true (fun k => (aBin .leq x2 x7).go H k) H fun x8 H => p (aPick x1 x8 cf) fun x9 => condK x9 ((fun (t1 t2 t3 t7 t8 : V) (H : L) (c : Cx) (r2 : F5) => (aLoad true 2 t3).go H fun x10 H => p (aCall c.pc 283 [x10, t8]) fun x11 => p (aBin .lss x11 (ci 0)) fun x12 => condK x12 (p (aBin .add t7 (ci 1)) fun x13 => p (aBin .add t8 (ci 1)) fun x14 => r2 t1 t2 t3 x13 x14 H) (p (aBin .add t8 (ci 1)) fun x15 => r2 t1 t2 t3 t7 x15 H)) t1 t2 t3 t7 t8 H c r2) (some (t7, H))) t1 t2 t3 t7 t8 x1 x2 x5 H c r2) t1 t2 t3 t7 t8 x1 H c r2
def j237_2 (c : Cx) : Nat → Nat → F5 := recN (fun _ _ _ _ _ _ _ => none) fun ih n2 => b237_2 c (ih n2) n2
theorem o237_2 (c : Cx) : d237_2 c = j237_2 c := by
  unfold j237_2
  refine recN_ok (by kernel_rfl) fun m => funext fun n2 => ?_
  funext t1 t2 t3 t7 t8 H
  refine Eq.trans (jnK_eq 4294967694 _ _ H _) ?_
  kernel_rfl
def b237_1 (c : Cx) (j2 : Nat → Nat → F5) (t0 t1 t2 : V) (H : List Blk) : X := newK 1 H fun q H => (aBox (q + 0) t0).go H fun x1 H => p (aBin .quo t1 (ci 16)) fun x2 => j2 c.n H.length t1 t2 x1 (ci 0) x2 H
def j237_1 (c : Cx) : F3 := b237_1 c (j237_2 c)
theorem o237_1 (c : Cx) : d237_1 c = j237_1 c := by
  unfold j237_1; rw [← o237_2]
  funext t0 t1 t2 H
  refine Eq.trans (stepK_jn c.pc c.ic c.n _ H _ 2147483655 c237_1) ?_
  kernel_rfl
def b237_0 (c : Cx) (j1 : F3) (t0 t1 t2 : V) (H : List Blk) : X := j1 t0 t1 t2 H
def s237 (c : Cx) (args : List V) (H : List Blk) : X := argsK 3 args (b237_0 c (j237_1 c) (getT args 0) (getT args 1) (getT args 2) H)
theorem e237 (pc ic n args H) : runK pc ic n c237 args H = s237 ⟨pc, ic, n⟩ args H := by
  unfold s237; rw [← o237_1]
  kernel_rfl
def L237 : Leaf := ⟨c237, fun pc ic n => s237 ⟨pc, ic, n⟩, e237⟩
theorem kk237 : chkFn Go.Proofs.Tryz.prog ET 237 c237 = true := by kernel_rfl

def l238_0 : List O := [o 24 (.fld 1) [.t 3] 0, ⟨some 25, .load false 1, [.t 24], none, 1, 1⟩, o 26 (.load true 2) [.t 3] 2, m 27 (.t 8) 3, m 32 (.t 1) 8, m 33 (.t 7) 9, ⟨some 34, .bin .add, [.t 32, .t 33], none, 48, 10⟩, ⟨some 35, .bin .rem, [.t 34, .c (ci 16)], none, 112, 11⟩, m 36 (.t 2) 12, m 37 (.t 7) 13, ⟨some 38, .ix 1, [.t 36, .t 37], none, 768, 14⟩, ⟨some 39, .load false 1, [.t 38], none, 1792, 15⟩, ⟨some 28, .icall 10283, [.t 26, .t 27], none, 12, 4⟩, ⟨some 29, .ix 2, [.t 25, .t 28], none, 4111, 5⟩, ⟨some 30, .fld 1, [.t 29], none, 12303, 6⟩, ⟨some 31, .load false 1, [.t 30], none, 28687, 7⟩, ⟨some 40, .ix 1, [.t 31, .t 35], none, 65535, 16⟩, ⟨none, .store 1, [.t 40, .t 39], none, 131071, 17⟩]
def c238_2 : C := (.seq (.seq (.reg 0 none [m 11 (.t 7) 0, m 12 (.t 2) 1, o 13 (.len 1) [.t 12] 2, o 14 (.bin .lss) [.t 11, .t 13] 3]) (.cond (.t 14) .skip (.exit 0))) (.seq (.blk 1 (.seq (.reg 0 none [m 17 (.t 1) 0, m 18 (.t 7) 1, o 19 (.bin .add) [.t 17, .t 18] 2, o 20 (.bin .quo) [.t 19, .c (ci 16)] 3, m 8 (.t 20) 4]) (.seq (.reg 0 none [o 21 (.load true 2) [.t 3] 0, m 22 (.t 8) 1, o 23 (.icall 10284) [.t 21, .t 22] 2, ⟨none, .store 2, [.t 3, .t 23], none, 0, 3⟩]) (.reg 0 (some ⟨false, [], 53⟩) l238_0)))) (.reg 0 none [m 15 (.t 7) 0, o 16 (.bin .add) [.t 15, .c (ci 1)] 1, m 7 (.t 16) 2])))
def c238_3 : C := (.seq (.reg 0 none [o 52 (.load true 2) [.t 3] 0, ⟨none, .store 2, [.t 6, .t 52], none, 0, 1⟩]) .ret)
def c238_s1 : C := (.seq (.seq (.reg 0 none [m 41 (.t 2) 0, o 42 (.len 1) [.t 41] 1, o 43 (.bin .gtr) [.t 42, .c (ci 0)] 2]) (.cond (.t 43) (.reg 0 none [o 44 (.fld 0) [.t 3] 0, o 45 (.load false 1) [.t 44] 1, m 46 (.t 1) 2, m 47 (.t 2) 3, o 48 (.len 1) [.t 47] 4, o 49 (.bin .add) [.t 46, .t 48] 5, o 50 .max [.t 45, .t 49] 6, o 51 (.fld 0) [.t 3] 7, ⟨none, .store 1, [.t 51, .t 50], none, 0, 8⟩]) .skip)) (.jn 27021597764223048 c238_3))
def c238_1 : C := (.seq (.reg 2 none [o 3 (.box 0) [.t 0] 0, o 6 (.alloc 1 [(ci 0), .nilS]) [] 1]) (.seq (.reg 0 none [o 9 (.load true 2) [.t 3] 0, o 10 (.icall 10102) [.t 9] 1, ⟨none, .store 2, [.t 3, .t 10], none, 0, 2⟩]) (.seq (.seq (.reg 0 none [m 7 (.c (ci 0)) 0]) (.blk 0 (.loop 18014398509482190 false c238_2))) c238_s1)))
def c238 : Fn := { fid := 238, np := 3, ntmps := 53, body := (.jn 9007199254740999 c238_1), res := [.cell 6 true 2] }
def d238_1 (c : Cx) (t0 t1 t2 : V) (H : List Blk) : X := stepK c.pc c.ic c.n (.jn 9007199254740999 c238_1) (cn 0 53 [(0, t0), (1, t1), (2, t2)]) H (kTop c238.res)
def k238_1 (c : Cx) : KT := thenK (stepK c.pc c.ic c.n c238_s1) (kTop c238.res)
def k238_2 (c : Cx) : KT := blkK 0 (k238_1 c)
def d238_2 (c : Cx) (m n2 : Nat) (t1 t2 t3 t6 t7 : V) (H : List Blk) : X := jnK (loopsK (stepK c.pc c.ic c.n c238_2) 18014398509482190 false n2 m) (cn 0 53 [(1, t1), (2, t2), (3, t3), (6, t6), (7, t7)]) H (k238_2 c) 18014398509482190
def d238_3 (c : Cx) (t3 t6 : V) (H : List Blk) : X := stepK c.pc c.ic c.n (.jn 27021597764223048 c238_3) (cn 0 53 [(3, t3), (6, t6)]) H (kTop c238.res)
def b238_3 (c : Cx) (t3 t6 : V) (H : List Blk) : X := (aLoad true 2 t3).go H fun x1 H => (aStore 2 t6 x1).go H fun _ H => bnd (loadV true 2 t6 H) fun x2 => some (x2, H)
def j238_3 (c : Cx) : F2 := b238_3 c
theorem o238_3 (c : Cx) : d238_3 c = j238_3 c := by
  unfold j238_3
  funext t3 t6 H
  refine Eq.trans (stepK_jn c.pc c.ic c.n _ H _ 27021597764223048 c238_3) ?_
  kernel_rfl
def b238_2 (c : Cx) (r2 : F5) (j3 : F2) (n2 : Nat) (t1 t2 t3 t6 t7 : V) (H : List Blk) : X := (aLen 1 t2).go H fun x1 H => p (aBin .lss t7 x1) fun x2 => condK x2 ((fun (t1 t2 t3 t6 t7 x1 x2 : V) (H : L) (c : Cx) (r2 : F5) => p (aBin .add t1 t7) fun x3 => p (aBin .quo x3 (ci 16)) fun x4 => (aLoad true 2 t3).go H fun x5 H => icK c 10284 [x5, x4] H fun x6 H => (aStore 2 t3 x6).go H fun _ H => drawnK c.pc c.ic l238_0 0 (cn 0 53 [(1, t1), (2, t2), (3, t3), (6, t6), (7, t7), (8, x4), (11, t7), (12, t2), (13, x1), (14, x2), (17, t1), (18, t7), (19, x3), (20, x4), (21, x5), (22, x4), (23, x6)]) H fun ts6 H => p (aBin .add (getT ts6 7) (ci 1)) fun x8 => r2 (getT ts6 1) (getT ts6 2) (getT ts6 3) (getT ts6 6) x8 H) t1 t2 t3 t6 t7 x1 x2 H c r2) ((fun (t1 t2 t3 t6 : V) (H : L) (j3 : F2) => (aLen 1 t2).go H fun x9 H => p (aBin .gtr x9 (ci 0)) fun x10 => condK x10 ((fun (t1 t2 t3 t6 : V) (H : L) (j3 : F2) => p (aFld 0 t3) fun x11 => (aLoad false 1 x11).go H fun x12 H => (aLen 1 t2).go H fun x13 H => p (aBin .add t1 x13) fun x14 => p (aMax x12 [x14]) fun x15 => p (aFld 0 t3) fun x16 => (aStore 1 x16 x15).go H fun _ H => j3 t3 t6 H) t1 t2 t3 t6 H j3) (j3 t3 t6 H)) t1 t2 t3 t6 H j3)
def j238_2 (c : Cx) : Nat → Nat → F5 := recN (fun _ _ _ _ _ _ _ => none) fun ih n2 => b238_2 c (ih n2) (j238_3 c) n2
theorem o238_2 (c : Cx) : d238_2 c = j238_2 c := by
  unfold j238_2
  refine recN_ok (by kernel_rfl) fun m => funext fun n2 => ?_
  simp only [← o238_3]
  funext t1 t2 t3 t6 t7 H
  refine Eq.trans (jnK_eq 18014398509482190 _ _ H _) ?_
  kernel_rfl
def b238_1 (c : Cx) (j2 : Nat → Nat → F5) (t0 t1 t2 : V) (H : List Blk) : X := newK 2 H fun q H => (aBox (q + 0) t0).go H fun x1 H => (aAlloc (q + 1) [(ci 0), .nilS]).go H fun x2 H => (aLoad true 2 x1).go H fun x3 H => icK c 10102 [x3] H fun x4 H => (aStore 2 x1 x4).go H fun _ H => j2 c.n H.length t1 t2 x1 x2 (ci 0) H
def j238_1 (c : Cx) : F3 := b238_1 c (j238_2 c)
theorem o238_1 (c : Cx) : d238_1 c = j238_1 c := by
  unfold j238_1; rw [← o238_2]
  funext t0 t1 t2 H
  refine Eq.trans (stepK_jn c.pc c.ic c.n _ H _ 9007199254740999 c238_1) ?_
  kernel_rfl
def b238_0 (c : Cx) (j1 : F3) (t0 t1 t2 : V) (H : List Blk) : X := j1 t0 t1 t2 H
def s238 (c : Cx) (args : List V) (H : List Blk) : X := argsK 3 args (b238_0 c (j238_1 c) (getT args 0) (getT args 1) (getT args 2) H)
theorem e238 (pc ic n args H) : runK pc ic n c238 args H = s238 ⟨pc, ic, n⟩ args H := by
  unfold s238; rw [← o238_1]
  kernel_rfl
def L238 : Leaf := ⟨c238, fun pc ic n => s238 ⟨pc, ic, n⟩, e238⟩
theorem kk238 : chkFn Go.Proofs.Tryz.prog ET 238 c238 = true := by kernel_rfl

def c239_3 : C := (.seq (.seq (.reg 0 none [m 28 (.t 8) 0, o 29 (.bin .lss) [.t 28, .c (ci 16)] 1]) (.cond (.t 29) .skip (.exit 2))) (.seq (.blk 3 (.seq (.reg 0 none [o 32 (.fld 0) [.t 7] 0, o 33 (.load false 1) [.t 32] 1, o 34 (.bin .mul) [.t 33, .c (ci 16)] 2, m 35 (.t 8) 3, o 36 (.bin .add) [.t 34, .t 35] 4, m 37 (.t 1) 5, o 38 (.bin .geq) [.t 36, .t 37] 6]) (.cond (.t 38) (.reg 0 none [o 39 (.fld 1) [.t 7] 0, o 40 (.load false 1) [.t 39] 1, m 41 (.t 8) 2, o 42 (.ix 1) [.t 40, .t 41] 3, ⟨none, .store 1, [.t 42, .c (.d (.int .u8 0))], none, 0, 4⟩]) .skip))) (.reg 0 none [m 30 (.t 8) 0, o 31 (.bin .add) [.t 30, .c (ci 1)] 1, m 8 (.t 31) 2])))
def c239_s1 : C := (.reg 2 none [m 43 (.t 5) 0, o 44 (.load true 2) [.t 7] 1, o 45 (.bsa 0 2 [(ci 0), .nilS] 1 [0]) [.t 44] 2, o 46 (.appA 1 2 32) [.t 43, .t 45] 3, m 5 (.t 46) 4])
def c239_s2 : C := (.reg 0 none [m 16 (.t 6) 0, o 17 (.bin .add) [.t 16, .c (ci 1)] 1, m 6 (.t 17) 2])
def c239_2 : C := (.seq (.seq (.reg 0 none [m 11 (.t 6) 0, o 12 (.fld 1) [.t 2] 1, o 13 (.load false 1) [.t 12] 2, o 14 (.len 1) [.t 13] 3, o 15 (.bin .lss) [.t 11, .t 14] 4]) (.cond (.t 15) .skip (.exit 0))) (.seq (.blk 1 (.seq (.reg 1 none [o 18 (.fld 1) [.t 2] 0, o 19 (.load false 1) [.t 18] 1, m 20 (.t 6) 2, o 21 (.ix 2) [.t 19, .t 20] 3, o 22 (.load true 2) [.t 21] 4, o 7 (.alloc 0 [(ci 0), .nilS]) [] 5, ⟨none, .store 2, [.t 7, .t 22], none, 0, 6⟩]) (.seq (.seq (.reg 0 none [o 23 (.fld 0) [.t 7] 0, o 24 (.load false 1) [.t 23] 1, o 25 (.bin .mul) [.t 24, .c (ci 16)] 2, m 26 (.t 1) 3, o 27 (.bin .geq) [.t 25, .t 26] 4]) (.cond (.t 27) (.exit 1) .skip)) (.seq (.seq (.reg 0 none [m 8 (.c (ci 0)) 0]) (.blk 2 (.loop 3377699720528374 false c239_3))) c239_s1)))) c239_s2))
def c239_s3 : C := (.seq (.reg 0 none [m 47 (.t 1) 0, m 48 (.t 5) 1, o 49 (.build [(ci 0), .nilS] [(0, 1), (1, 1)]) [.t 47, .t 48] 2, ⟨none, .store 2, [.t 4, .t 49], none, 0, 3⟩]) .ret)
def c239_1 : C := (.seq (.reg 2 none [o 2 (.box 0) [.t 0] 0, o 4 (.alloc 1 [(ci 0), .nilS]) [] 1]) (.seq (.reg 0 none [o 9 (.load true 2) [.t 2] 0, o 10 (.icall 10102) [.t 9] 1, ⟨none, .store 2, [.t 2, .t 10], none, 0, 2⟩]) (.seq (.reg 0 none [m 5 (.c .nilS) 0]) (.seq (.seq (.reg 0 none [m 6 (.c (ci 0)) 0]) (.blk 0 (.loop 2251799813685366 false c239_2))) c239_s3))))
def c239 : Fn := { fid := 239, np := 2, ntmps := 50, body := (.jn 1125899906842627 c239_1), res := [.cell 4 true 2] }
def d239_1 (c : Cx) (t0 t1 : V) (H : List Blk) : X := stepK c.pc c.ic c.n (.jn 1125899906842627 c239_1) (cn 0 50 [(0, t0), (1, t1)]) H (kTop c239.res)
def k239_1 (c : Cx) : KT := thenK (stepK c.pc c.ic c.n c239_s3) (kTop c239.res)
def k239_2 (c : Cx) : KT := blkK 0 (k239_1 c)
def d239_2 (c : Cx) (m n2 : Nat) (t1 t2 t4 t5 t6 : V) (H : List Blk) : X := jnK (loopsK (stepK c.pc c.ic c.n c239_2) 2251799813685366 false n2 m) (cn 0 50 [(1, t1), (2, t2), (4, t4), (5, t5), (6, t6)]) H (k239_2 c) 2251799813685366
def k239_3 (c : Cx) (m2 n2 : Nat) : KT := thenK (fun ts H k => jnK (loopsK (stepK c.pc c.ic c.n c239_2) 2251799813685366 false n2 m2) (maskT 2251799813685366 0 ts) H k 2251799813685366) (k239_2 c)
def k239_4 (c : Cx) (m2 n2 : Nat) : KT := thenK (stepK c.pc c.ic c.n c239_s2) (k239_3 c m2 n2)
def k239_5 (c : Cx) (m2 n2 : Nat) : KT := blkK 1 (k239_4 c m2 n2)
def k239_6 (c : Cx) (m2 n2 : Nat) : KT := thenK (stepK c.pc c.ic c.n c239_s1) (k239_5 c m2 n2)
def k239_7 (c : Cx) (m2 n2 : Nat) : KT := blkK 2 (k239_6 c m2 n2)
def d239_3 (c : Cx) (m2 n2 : Nat) (m n3 : Nat) (t1 t2 t4 t5 t6 t7 t8 : V) (H : List Blk) : X := jnK (loopsK (stepK c.pc c.ic c.n c239_3) 3377699720528374 false n3 m) (cn 0 50 [(1, t1), (2, t2), (4, t4), (5, t5), (6, t6), (7, t7), (8, t8)]) H (k239_7 c m2 n2) 3377699720528374
def b239_3 (c : Cx) (r2 : F5) (r3 : F7) (n3 : Nat) (t1 t2 t4 t5 t6 t7 t8 : V) (H : List Blk) : X := p (aBin .lss t8 (ci 16)) fun x1 => condK x1 ((fun (t1 t2 t4 t5 t6 t7 t8 : V) (H : L) (r3 : F7) => p (aFld 0 t7) fun x2 => (fun (t1 t2 t4 t5 t6 t7 t8 x2 : V) (H : L) (r3 : F7) => (aLoad false 1 x2).go H fun x3 H => p (aBin .mul x3 (ci 16)) fun x4 => p (aBin .add x4 t8) fun x5 => p (aBin .geq x5 t1) fun x6 => condK x6 ((fun (t1 t2 t4 t5 t6 t7 t8 : V) (H : L) (r3 : F7) => p (aFld 1 t7) fun x7 => (aLoad false 1 x7).go H fun x8 H => p (aIx 1 x8 t8) fun x9 => (aStore 1 x9 (.d (.int .u8 0))).go H fun _ H => p (aBin .add t8 (ci 1)) fun x10 => r3 t1 t2 t4 t5 t6 t7 x10 H) t1 t2 t4 t5 t6 t7 t8 H r3) (p (aBin .add t8 (ci 1)) fun x11 => r3 t1 t2 t4 t5 t6 t7 x11 H)) t1 t2 t4 t5 t6 t7 t8 x2 H r3) t1 t2 t4 t5 t6 t7 t8 H r3) ((fun (t1 t2 t4 t5 t6 t7 : V) (H : L) (r2 : F5) => newK 2 H fun q H => (aLoad true 2 t7).go H fun x12 H => (aBsa (q + 0) 2 [(ci 0), .nilS] 1 [0] [x12]).go H fun x13 H => (aAppA (q + 1) 2 32 t5 x13).go H fun x14 H => p (aBin .add t6 (ci 1)) fun x15 => r2 t1 t2 t4 x14 x15 H) t1 t2 t4 t5 t6 t7 H r2)
def j239_3 (c : Cx) (r2 : F5) : Nat → Nat → F7 := recN (fun _ _ _ _ _ _ _ _ _ => none) fun ih n3 => b239_3 c r2 (ih n3) n3
theorem o239_3 (c : Cx) (m2 n2 : Nat) : d239_3 c m2 n2 = j239_3 c (d239_2 c m2 n2) := by
  unfold j239_3
  refine recN_ok (by kernel_rfl) fun m => funext fun n3 => ?_
  funext t1 t2 t4 t5 t6 t7 t8 H
  refine Eq.trans (jnK_eq 3377699720528374 _ _ H _) ?_
  kernel_rfl
def b239_2 (c : Cx) (r2 : F5) (j3 : Nat → Nat → F7) (n2 : Nat) (t1 t2 t4 t5 t6 : V) (H : List Blk) : X := p (aFld 1 t2) fun x1 => (aLoad false 1 x1).go H fun x2 H => (aLen 1 x2).go H fun x3 H => p (aBin .lss t6 x3) fun x4 => condK x4 ((fun (t1 t2 t4 t5 t6 : V) (H : L) (c : Cx) (j3 : Nat → Nat → F7) (r2 : F5) => newK 1 H fun q H => p (aFld 1 t2) fun x5 => (aLoad false 1 x5).go H fun x6 H => (fun (t1 t2 t4 t5 t6 x6 : V) (q : Nat) (H : L) (c : Cx) (j3 : Nat → Nat → F7) (r2 : F5) => p (aIx 2 x6 t6) fun x7 => (aLoad true 2 x7).go H fun x8 H => (aAlloc (q + 0) [(ci 0), .nilS]).go H fun x9 H => (aStore 2 x9 x8).go H fun _ H => p (aFld 0 x9) fun x10 => (aLoad false 1 x10).go H fun x11 H => p (aBin .mul x11 (ci 16)) fun x12 => p (aBin .geq x12 t1) fun x13 => condK x13 (p (aBin .add t6 (ci 1)) fun x14 => r2 t1 t2 t4 t5 x14 H) (j3 c.n H.length t1 t2 t4 t5 t6 x9 (ci 0) H)) t1 t2 t4 t5 t6 x6 q H c j3 r2) t1 t2 t4 t5 t6 H c j3 r2) (p (aBuild [(ci 0), .nilS] [(0, 1), (1, 1)] [t1, t5]) fun x15 => (aStore 2 t4 x15).go H fun _ H => bnd (loadV true 2 t4 H) fun x16 => some (x16, H))
def j239_2 (c : Cx) : Nat → Nat → F5 := recN (fun _ _ _ _ _ _ _ => none) fun ih n2 => b239_2 c (ih n2) (j239_3 c (ih n2)) n2
theorem o239_2 (c : Cx) : d239_2 c = j239_2 c := by
  unfold j239_2
  refine recN_ok (by kernel_rfl) fun m => funext fun n2 => ?_
  simp only [← o239_3]
  funext t1 t2 t4 t5 t6 H
  refine Eq.trans (jnK_eq 2251799813685366 _ _ H _) ?_
  kernel_rfl
def b239_1 (c : Cx) (j2 : Nat → Nat → F5) (t0 t1 : V) (H : List Blk) : X := newK 2 H fun q H => (aBox (q + 0) t0).go H fun x1 H => (aAlloc (q + 1) [(ci 0), .nilS]).go H fun x2 H => (aLoad true 2 x1).go H fun x3 H => icK c 10102 [x3] H fun x4 H => (aStore 2 x1 x4).go H fun _ H => j2 c.n H.length t1 x1 x2 .nilS (ci 0) H
def j239_1 (c : Cx) : F2 := b239_1 c (j239_2 c)
theorem o239_1 (c : Cx) : d239_1 c = j239_1 c := by
  unfold j239_1; rw [← o239_2]
  funext t0 t1 H
  refine Eq.trans (stepK_jn c.pc c.ic c.n _ H _ 1125899906842627 c239_1) ?_
  kernel_rfl
def b239_0 (c : Cx) (j1 : F2) (t0 t1 : V) (H : List Blk) : X := j1 t0 t1 H
def s239 (c : Cx) (args : List V) (H : List Blk) : X := argsK 2 args (b239_0 c (j239_1 c) (getT args 0) (getT args 1) H)
theorem e239 (pc ic n args H) : runK pc ic n c239 args H = s239 ⟨pc, ic, n⟩ args H := by
  unfold s239; rw [← o239_1]
  kernel_rfl
def L239 : Leaf := ⟨c239, fun pc ic n => s239 ⟨pc, ic, n⟩, e239⟩
theorem kk239 : chkFn Go.Proofs.Tryz.prog ET 239 c239 = true := by kernel_rfl

def c240 : Fn := { fid := 240, np := 1, ntmps := 15, body := (.seq (.reg 0 none [m 2 (.c .nilS) 0]) (.seq (.reg 0 none [m 3 (.t 0) 0, o 4 (.bin .shr) [.t 3, .c (.d (.int .u64 24))] 1, o 5 (.toInt .u8) [.t 4] 2, m 6 (.t 0) 3, o 7 (.bin .shr) [.t 6, .c (.d (.int .u64 16))] 4, o 8 (.toInt .u8) [.t 7] 5, m 9 (.t 0) 6, o 10 (.bin .shr) [.t 9, .c (.d (.int .u64 8))] 7, o 11 (.toInt .u8) [.t 10] 8, m 12 (.t 0) 9, o 13 (.toInt .u8) [.t 12] 10, o 14 (.bsl 1 [(.int .u8 0)] 4 [0, 1, 2, 3]) [.t 5, .t 8, .t 11, .t 13] 11, m 2 (.t 14) 12]) .ret)), res := [.tmp 2] }
def b240_0 (c : Cx) (t0 : V) (H : List Blk) : X := p (aBin .shr t0 (.d (.int .u64 24))) fun x1 => p (aToInt .u8 x1) fun x2 => p (aBin .shr t0 (.d (.int .u64 16))) fun x3 => p (aToInt .u8 x3) fun x4 => (fun (t0 x2 x4 : V) (H : L) => p (aBin .shr t0 (.d (.int .u64 8))) fun x5 => p (aToInt .u8 x5) fun x6 => p (aToInt .u8 t0) fun x7 => p (aBsl 1 [(.int .u8 0)] 4 [0, 1, 2, 3] [x2, x4, x6, x7]) fun x8 => some (x8, H)) t0 x2 x4 H
def s240 (c : Cx) (args : List V) (H : List Blk) : X := argsK 1 args (b240_0 c (getT args 0) H)
theorem e240 (pc ic n args H) : runK pc ic n c240 args H = s240 ⟨pc, ic, n⟩ args H := by
  unfold s240
  kernel_rfl
def L240 : Leaf := ⟨c240, fun pc ic n => s240 ⟨pc, ic, n⟩, e240⟩
theorem kk240 : chkFn Go.Proofs.Tryz.prog ET 240 c240 = true := by kernel_rfl

def l241_0 : List O := [m 21 (.t 3) 0, m 22 (.t 0) 1, m 23 (.t 4) 2, ⟨some 24, .ix 3, [.t 22, .t 23], none, 6, 3⟩, ⟨some 25, .fld 0, [.t 24], none, 14, 4⟩, ⟨some 26, .fld 1, [.t 25], none, 30, 5⟩, ⟨some 27, .load false 1, [.t 26], none, 62, 6⟩, ⟨some 28, .call 240, [.t 27], none, 126, 7⟩, ⟨some 29, .app 0 1 1, [.t 21, .t 28], none, 255, 8⟩, m 30 (.t 0) 9, m 31 (.t 4) 10, ⟨some 32, .ix 3, [.t 30, .t 31], none, 1536, 11⟩, ⟨some 33, .fld 2, [.t 32], none, 3584, 12⟩, ⟨some 34, .load false 1, [.t 33], none, 7680, 13⟩, ⟨some 35, .call 240, [.t 34], none, 16383, 14⟩, ⟨some 36, .app 1 1 1, [.t 29, .t 35], none, 32767, 15⟩, ⟨some 3, .mov, [.t 36], none, 65535, 16⟩]
def c241_2 : C := (.seq (.seq (.reg 0 none [m 5 (.t 4) 0, m 6 (.t 0) 1, o 7 (.len 1) [.t 6] 2, o 8 (.bin .lss) [.t 5, .t 7] 3]) (.cond (.t 8) .skip (.exit 0))) (.seq (.blk 1 (.seq (.reg 1 none [m 11 (.t 3) 0, m 12 (.t 0) 1, m 13 (.t 4) 2, o 14 (.ix 3) [.t 12, .t 13] 3, o 15 (.fld 0) [.t 14] 4, o 16 (.fld 0) [.t 15] 5, o 17 (.load false 1) [.t 16] 6, o 18 (.toInt .u8) [.t 17] 7, o 19 (.bsl 1 [(.int .u8 0)] 1 [0]) [.t 18] 8, o 20 (.app 0 1 1) [.t 11, .t 19] 9, m 3 (.t 20) 10]) (.reg 2 (some ⟨false, [], 38⟩) l241_0))) (.reg 0 none [m 9 (.t 4) 0, o 10 (.bin .add) [.t 9, .c (ci 1)] 1, m 4 (.t 10) 2])))
def c241_s1 : C := (.seq (.reg 0 none [m 37 (.t 3) 0, m 2 (.t 37) 1]) .ret)
def c241_1 : C := (.seq (.reg 0 none [m 2 (.c .nilS) 0]) (.seq (.reg 0 none [m 3 (.c .nilS) 0]) (.seq (.seq (.reg 0 none [m 4 (.c (ci 0)) 0]) (.blk 0 (.loop 549755813913 false c241_2))) c241_s1)))
def c241 : Fn := { fid := 241, np := 1, ntmps := 38, body := (.jn 274877906945 c241_1), res := [.tmp 2] }
def d241_1 (c : Cx) (t0 : V) (H : List Blk) : X := stepK c.pc c.ic c.n (.jn 274877906945 c241_1) (cn 0 38 [(0, t0)]) H (kTop c241.res)
def k241_1 (c : Cx) : KT := thenK (stepK c.pc c.ic c.n c241_s1) (kTop c241.res)
def k241_2 (c : Cx) : KT := blkK 0 (k241_1 c)
def d241_2 (c : Cx) (m n2 : Nat) (t0 t3 t4 : V) (H : List Blk) : X := jnK (loopsK (stepK c.pc c.ic c.n c241_2) 549755813913 false n2 m) (cn 0 38 [(0, t0), (3, t3), (4, t4)]) H (k241_2 c) 549755813913
def b241_2 (c : Cx) (r2 : F3) (n2 : Nat) (t0 t3 t4 : V) (H : List Blk) : X := (aLen 1 t0).go H fun x1 H => p (aBin .lss t4 x1) fun x2 => condK x2 ((fun (t0 t3 t4 x1 x2 : V) (H : L) (c : Cx) (r2 : F3) => newK 1 H fun q H => p (aIx 3 t0 t4) fun x3 => p (aFld 0 x3) fun x4 => p (aFld 0 x4) fun x5 => (fun (t0 t3 t4 x1 x2 x3 x4 x5 : V) (q : Nat) (H : L) (c : Cx) (r2 : F3) => (aLoad false 1 x5).go H fun x6 H => p (aToInt .u8 x6) fun x7 => p (aBsl 1 [(.int .u8 0)] 1 [0] [x7]) fun x8 => (aApp (q + 0) 1 1 t3 x8).go H fun x9 H => newK 2 H fun q H => drawnK c.pc c.ic l241_0 q (cn 0 38 [(0, t0), (3, x9), (4, t4), (5, t4), (6, t0), (7, x1), (8, x2), (11, t3), (12, t0), (13, t4), (14, x3), (15, x4), (16, x5), (17, x6), (18, x7), (19, x8), (20, x9)]) H fun ts9 H => p (aBin .add (getT ts9 4) (ci 1)) fun x11 => r2 (getT ts9 0) (getT ts9 3) x11 H) t0 t3 t4 x1 x2 x3 x4 x5 q H c r2) t0 t3 t4 x1 x2 H c r2) (some (t3, H))
def j241_2 (c : Cx) : Nat → Nat → F3 := recN (fun _ _ _ _ _ => none) fun ih n2 => b241_2 c (ih n2) n2
theorem o241_2 (c : Cx) : d241_2 c = j241_2 c := by
  unfold j241_2
  refine recN_ok (by kernel_rfl) fun m => funext fun n2 => ?_
  funext t0 t3 t4 H
  refine Eq.trans (jnK_eq 549755813913 _ _ H _) ?_
  kernel_rfl
def b241_1 (c : Cx) (j2 : Nat → Nat → F3) (t0 : V) (H : List Blk) : X := j2 c.n H.length t0 .nilS (ci 0) H
def j241_1 (c : Cx) : F1 := b241_1 c (j241_2 c)
theorem o241_1 (c : Cx) : d241_1 c = j241_1 c := by
  unfold j241_1; rw [← o241_2]
  funext t0 H
  refine Eq.trans (stepK_jn c.pc c.ic c.n _ H _ 274877906945 c241_1) ?_
  kernel_rfl
def b241_0 (c : Cx) (j1 : F1) (t0 : V) (H : List Blk) : X := j1 t0 H
def s241 (c : Cx) (args : List V) (H : List Blk) : X := argsK 1 args (b241_0 c (j241_1 c) (getT args 0) H)
theorem e241 (pc ic n args H) : runK pc ic n c241 args H = s241 ⟨pc, ic, n⟩ args H := by
  unfold s241; rw [← o241_1]
  kernel_rfl
def L241 : Leaf := ⟨c241, fun pc ic n => s241 ⟨pc, ic, n⟩, e241⟩
theorem kk241 : chkFn Go.Proofs.Tryz.prog ET 241 c241 = true := by kernel_rfl

def c242_2 : C := (.cond (.t 71) (.seq (.reg 0 none [m 4 (.c cf) 0]) .ret) .skip)
def c242_4 : C := (.seq (.reg 0 (some ⟨true, [], 122⟩) [m 90 (.t 7) 0, ⟨some 91, .un .not, [.t 90], none, 1, 1⟩, ⟨some 92, .mov, [.t 91], none, 3, 2⟩, ⟨some 93, .fld 7, [.t 3], some (92, false), 7, 3⟩, ⟨some 94, .load false 1, [.t 93], some (92, false), 15, 4⟩, ⟨some 95, .mov, [.t 5], some (92, false), 7, 5⟩, ⟨some 96, .ix 2, [.t 94, .t 95], some (92, false), 63, 6⟩, ⟨some 97, .fld 0, [.t 96], some (92, false), 127, 7⟩, ⟨some 98, .load false 1, [.t 97], some (92, false), 255, 8⟩, ⟨some 99, .call 286, [.t 98], some (92, false), 511, 9⟩, ⟨some 100, .un .not, [.t 99], some (92, false), 1023, 10⟩, ⟨some 101, .pick, [.t 92, .c ct, .t 100], none, 2047, 11⟩, ⟨some 102, .mov, [.t 101], none, 4095, 12⟩, ⟨some 103, .mov, [.t 5], some (102, false), 8191, 13⟩, ⟨some 104, .bin .gtr, [.t 103, .c (ci 0)], some (102, false), 16383, 14⟩, ⟨some 105, .mov, [.t 104], some (102, false), 32767, 15⟩, ⟨some 106, .fld 7, [.t 3], some (105, true), 65535, 16⟩, ⟨some 107, .load false 1, [.t 106], some (105, true), 131071, 17⟩, ⟨some 108, .mov, [.t 5], some (105, true), 65535, 18⟩, ⟨some 109, .ix 2, [.t 107, .t 108], some (105, true), 524287, 19⟩, ⟨some 110, .fld 0, [.t 109], some (105, true), 1048575, 20⟩, ⟨some 111, .load false 1, [.t 110], some (105, true), 2097151, 21⟩, ⟨some 112, .fld 7, [.t 3], some (105, true), 65535, 22⟩, ⟨some 113, .load false 1, [.t 112], some (105, true), 4259839, 23⟩, ⟨some 114, .mov, [.t 5], some (105, true), 65535, 24⟩, ⟨some 115, .bin .sub, [.t 114, .c (ci 1)], some (105, true), 16842751, 25⟩, ⟨some 116, .ix 2, [.t 113, .t 115], some (105, true), 62980095, 26⟩, ⟨some 117, .fld 0, [.t 116], some (105, true), 130088959, 27⟩, ⟨some 118, .load false 1, [.t 117], some (105, true), 264306687, 28⟩, ⟨some 119, .bin .leq, [.t 111, .t 118], some (105, true), 536870911, 29⟩, ⟨some 120, .pick, [.t 105, .t 119, .c cf], some (102, false), 1073741823, 30⟩, ⟨some 121, .pick, [.t 102, .c ct, .t 120], none, 2147483647, 31⟩]) (.cond (.t 121) (.seq (.reg 0 none [m 4 (.c cf) 0]) .ret) .skip))
def c242_s1 : C := (.reg 0 none [m 77 (.t 5) 0, o 78 (.bin .add) [.t 77, .c (ci 1)] 1, m 5 (.t 78) 2])
def l242_0 : List O := [o 80 (.load true 4) [.t 2] 0, o 81 (.fld 7) [.t 3] 1, ⟨some 82, .load false 1, [.t 81], none, 2, 2⟩, m 83 (.t 5) 3, ⟨some 84, .ix 2, [.t 82, .t 83], none, 14, 4⟩, ⟨some 85, .fld 1, [.t 84], none, 30, 5⟩, ⟨some 86, .load false 1, [.t 85], none, 62, 6⟩, ⟨some 87, .call 16, [.t 80, .t 86], none, 127, 7⟩, ⟨some 79, .mov, [.t 87], none, 255, 8⟩, ⟨some 88, .ext 0, [.t 79], none, 511, 9⟩, ⟨some 89, .ext 1, [.t 79], none, 511, 10⟩, o 6 (.alloc 0 z1) [] 11, ⟨none, .store 8, [.t 6, .t 88], none, 3071, 12⟩, ⟨some 7, .mov, [.t 89], none, 8191, 13⟩]
def c242_3 : C := (.seq (.seq (.reg 0 none [m 72 (.t 5) 0, o 73 (.fld 7) [.t 3] 1, o 74 (.load false 1) [.t 73] 2, o 75 (.len 1) [.t 74] 3, o 76 (.bin .lss) [.t 72, .t 75] 4]) (.cond (.t 76) .skip (.exit 0))) (.seq (.blk 1 (.seq (.reg 1 (some ⟨false, [0, 1, 2, 3, 4, 5, 6, 7, 8, 9, 11, 12, 10, 13], 122⟩) l242_0) (.jn 21267647932558653966460912964485513388 c242_4))) c242_s1))
def c242_s2 : C := (.seq (.reg 0 none [m 4 (.c ct) 0]) .ret)
def c242_s3 : C := (.seq (.seq (.reg 0 none [m 5 (.c (ci 0)) 0]) (.blk 0 (.loop 15950735949418990474845684723364134956 true c242_3))) c242_s2)
def c242_1 : C := (.seq (.reg 2 none [o 2 (.box 0) [.t 0] 0, o 3 (.box 1) [.t 1] 1, m 4 (.c cf) 2]) (.seq (.seq (.reg 0 none [o 8 (.fld 1) [.t 3] 0, o 9 (.load false 1) [.t 8] 1, o 10 (.bin .lss) [.t 9, .c (ci 1)] 2, m 11 (.t 10) 3, ⟨some 12, .fld 1, [.t 3], some (11, false), 0, 4⟩, ⟨some 13, .load false 1, [.t 12], some (11, false), 0, 5⟩, ⟨some 14, .bin .gtr, [.t 13, .c (ci 3)], some (11, false), 0, 6⟩, o 15 .pick [.t 11, .c ct, .t 14] 7, m 16 (.t 15) 8, ⟨some 17, .fld 2, [.t 3], some (16, false), 0, 9⟩, ⟨some 18, .load false 1, [.t 17], some (16, false), 0, 10⟩, ⟨some 19, .bin .lss, [.t 18, .c (ci 0)], some (16, false), 0, 11⟩, o 20 .pick [.t 16, .c ct, .t 19] 12, m 21 (.t 20) 13, ⟨some 22, .fld 2, [.t 3], some (21, false), 0, 14⟩, ⟨some 23, .load false 1, [.t 22], some (21, false), 0, 15⟩, ⟨some 24, .bin .gtr, [.t 23, .c (ci 511)], some (21, false), 0, 16⟩, o 25 .pick [.t 21, .c ct, .t 24] 17, m 26 (.t 25) 18, ⟨some 27, .fld 4, [.t 3], some (26, false), 0, 19⟩, ⟨some 28, .load true 2, [.t 27], some (26, false), 0, 20⟩, ⟨some 29, .call 285, [.t 28], some (26, false), 0, 21⟩, ⟨some 30, .un .not, [.t 29], some (26, false), 0, 22⟩, o 31 .pick [.t 26, .c ct, .t 30] 23]) (.cond (.t 31) (.seq (.reg 0 none [m 4 (.c cf) 0]) .ret) .skip)) (.seq (.seq (.reg 0 none [o 32 (.fld 1) [.t 3] 0, o 33 (.load false 1) [.t 32] 1, o 34 (.bin .neq) [.t 33, .c (ci 1)] 2, m 35 (.t 34) 3, ⟨some 36, .fld 4, [.t 3], some (35, true), 0, 4⟩, ⟨some 37, .fld 0, [.t 36], some (35, true), 0, 5⟩, ⟨some 38, .load false 1, [.t 37], some (35, true), 0, 6⟩, ⟨some 39, .bin .gtr, [.t 38, .c (ci 0)], some (35, true), 0, 7⟩, ⟨some 40, .mov, [.t 39], some (35, true), 0, 8⟩, ⟨some 41, .fld 4, [.t 3], some (40, false), 0, 9⟩, ⟨some 42, .fld 1, [.t 41], some (40, false), 0, 10⟩, ⟨some 43, .load false 1, [.t 42], some (40, false), 0, 11⟩, ⟨some 44, .len 1, [.t 43], some (40, false), 0, 12⟩, ⟨some 45, .bin .gtr, [.t 44, .c (ci 0)], some (40, false), 0, 13⟩, ⟨some 46, .pick, [.t 40, .c ct, .t 45], some (35, true), 0, 14⟩, o 47 .pick [.t 35, .t 46, .c cf] 15, m 48 (.t 47) 16, ⟨some 49, .fld 1, [.t 3], some (48, false), 0, 17⟩, ⟨some 50, .load false 1, [.t 49], some (48, false), 0, 18⟩, ⟨some 51, .bin .neq, [.t 50, .c (ci 2)], some (48, false), 0, 19⟩, ⟨some 52, .mov, [.t 51], some (48, false), 0, 20⟩, ⟨some 53, .fld 7, [.t 3], some (52, true), 0, 21⟩, ⟨some 54, .load false 1, [.t 53], some (52, true), 0, 22⟩, ⟨some 55, .len 1, [.t 54], some (52, true), 0, 23⟩, ⟨some 56, .bin .gtr, [.t 55, .c (ci 0)], some (52, true), 0, 24⟩, ⟨some 57, .pick, [.t 52, .t 56, .c cf], some (48, false), 0, 25⟩, o 58 .pick [.t 48, .c ct, .t 57] 26]) (.cond (.t 58) (.seq (.reg 0 none [m 4 (.c cf) 0]) .ret) .skip)) (.seq (.seq (.reg 0 none [o 59 (.fld 1) [.t 3] 0, o 60 (.load false 1) [.t 59] 1, o 61 (.bin .eql) [.t 60, .c (ci 3)] 2, o 62 (.fld 6) [.t 3] 3, o 63 (.load false 1) [.t 62] 4, o 64 (.bin .neq) [.t 63, .c (.d (.str []))] 5, o 65 (.eqn 3 true) [.t 61, .t 64] 6, m 66 (.t 65) 7, ⟨some 67, .fld 6, [.t 3], some (66, false), 0, 8⟩, ⟨some 68, .load false 1, [.t 67], some (66, false), 0, 9⟩, ⟨some 69, .len 0, [.t 68], some (66, false), 0, 10⟩, ⟨some 70, .bin .gtr, [.t 69, .c (ci 120)], some (66, false), 0, 11⟩, o 71 .pick [.t 66, .c ct, .t 70] 12]) (.jn 10633823966279329344413697917065363468 c242_2)) c242_s3))))
def c242 : Fn := { fid := 242, np := 2, ntmps := 122, body := (.jn 5316911983139663491615228241121378307 c242_1), res := [.tmp 4] }
def d242_1 (c : Cx) (t0 t1 : V) (H : List Blk) : X := stepK c.pc c.ic c.n (.jn 5316911983139663491615228241121378307 c242_1) (cn 0 122 [(0, t0), (1, t1)]) H (kTop c242.res)
def k242_1 (c : Cx) : KT := thenK (stepK c.pc c.ic c.n c242_s3) (kTop c242.res)
def d242_2 (c : Cx) (t2 t3 t71 : V) (H : List Blk) : X := stepK c.pc c.ic c.n (.jn 10633823966279329344413697917065363468 c242_2) (cn 0 122 [(2, t2), (3, t3), (71, t71)]) H (k242_1 c)
def k242_2 (c : Cx) : KT := thenK (stepK c.pc c.ic c.n c242_s2) (kTop c242.res)
def k242_3 (c : Cx) : KT := blkK 0 (k242_2 c)
def d242_3 (c : Cx) (m n3 : Nat) (t2 t3 t5 : V) (H : List Blk) : X := jnK (loopsK (stepK c.pc c.ic c.n c242_3) 15950735949418990474845684723364134956 true n3 m) (cn 0 122 [(2, t2), (3, t3), (5, t5)]) H (k242_3 c) 15950735949418990474845684723364134956
def k242_4 (c : Cx) (m3 n3 : Nat) : KT := thenK (fun ts H k => jnK (loopsK (stepK c.pc c.ic c.n c242_3) 15950735949418990474845684723364134956 true n3 m3) (maskT 15950735949418990474845684723364134956 0 ts) H k 15950735949418990474845684723364134956) (k242_3 c)
def k242_5 (c : Cx) (m3 n3 : Nat) : KT := thenK (stepK c.pc c.ic c.n c242_s1) (k242_4 c m3 n3)
def k242_6 (c : Cx) (m3 n3 : Nat) : KT := blkK 1 (k242_5 c m3 n3)
def d242_4 (c : Cx) (m3 n3 : Nat) (t2 t3 t5 t7 : V) (H : List Blk) : X := stepK c.pc c.ic c.n (.jn 21267647932558653966460912964485513388 c242_4) (cn 0 122 [(2, t2), (3, t3), (5, t5), (7, t7)]) H (k242_6 c m3 n3)
def b242_4 (c : Cx) (r3 : F3) (t2 t3 t5 t7 : V) (H : List Blk) : X := p (aUn .not t7) fun x1 => (fun (t2 t3 t5 x1 : V) (H : L) (c : Cx) (r3 : F3) => guardK x1 false (fun k => (aFld 7 t3).go H k) H fun x2 H => guardK x1 false (fun k => (aLoad false 1 x2).go H k) H fun x3 H => guardK x1 false (fun k => (aMov t5).go H k) H fun x4 H => guardK x1 false (fun k => (aIx 2 x3 x4).go H k) H fun x5 H => (fun (t2 t3 t5 x1 x5 : V) (H : L) (c : Cx) (r3 : F3) => guardK x1 false (fun k => (aFld 0 x5).go H k) H fun x6 H => guardK x1 false (fun k => (aLoad false 1 x6).go H k) H fun x7 H => guardK x1 false (fun k => (aCall c.pc 286 [x7]).go H k) H fun x8 H => guardK x1 false (fun k => (aUn .not x8).go H k) H fun x9 H => (fun (t2 t3 t5 x1 x9 : V) (H : L) (r3 : F3) => p (aPick x1 ct x9) fun x10 => guardK x10 false (fun k => (aMov t5).go H k) H fun x11 H => guardK x10 false (fun k => (aBin .gtr x11 (ci 0)).go H k) H fun x12 H => guardK x10 false (fun k => (aMov x12).go H k) H fun x13 H => (fun (t2 t3 t5 x10 x13 : V) (H : L) (r3 : F3) => guardK x13 true (fun k => (aFld 7 t3).go H k) H fun x14 H => guardK x13 true (fun k => (aLoad false 1 x14).go H k) H fun x15 H => guardK x13 true (fun k => (aMov t5).go H k) H fun x16 H => guardK x13 true (fun k => (aIx 2 x15 x16).go H k) H fun x17 H => (fun (t2 t3 t5 x10 x13 x17 : V) (H : L) (r3 : F3) => guardK x13 true (fun k => (aFld 0 x17).go H k) H fun x18 H => guardK x13 true (fun k => (aLoad false 1 x18).go H k) H fun x19 H => guardK x13 true (fun k => (aFld 7 t3).go H k) H fun x20 H => guardK x13 true (fun k => (aLoad false 1 x20).go H k) H fun x21 H => (fun (t2 t3 t5 x10 x13 x19 x21 : V) (H : L) (r3 : F3) => guardK x13 true (fun k => (aMov t5).go H k) H fun x22 H => guardK x13 true (fun k => (aBin .sub x22 (ci 1)).go H k) H fun x23 H => guardK x13 true (fun k => (aIx 2 x21 x23).go H k) H fun x24 H => guardK x13 true (fun k => (aFld 0 x24).go H k) H fun x25 H => (fun (t2 t3 t5 x10 x13 x19 x25 : V) (H : L) (r3 : F3) => guardK x13 true (fun k => (aLoad false 1 x25).go H k) H fun x26 H => guardK x13 true (fun k => (aBin .leq x19 x26).go H k) H fun x27 H => guardK x10 false (fun k => (aPick x13 x27 cf).go H k) H fun x28 H => p (aPick x10 ct x28) fun x29 => condK x29 (some (cf, H)) (p (aBin .add t5 (ci 1)) fun x30 => r3 t2 t3 x30 H)) t2 t3 t5 x10 x13 x19 x25 H r3) t2 t3 t5 x10 x13 x19 x21 H r3) t2 t3 t5 x10 x13 x17 H r3) t2 t3 t5 x10 x13 H r3) t2 t3 t5 x1 x9 H r3) t2 t3 t5 x1 x5 H c r3) t2 t3 t5 x1 H c r3
def j242_4 (c : Cx) (r3 : F3) : F4 := b242_4 c r3
theorem o242_4 (c : Cx) (m3 n3 : Nat) : d242_4 c m3 n3 = j242_4 c (d242_3 c m3 n3) := by
  unfold j242_4
  funext t2 t3 t5 t7 H
  refine Eq.trans (stepK_jn c.pc c.ic c.n _ H _ 21267647932558653966460912964485513388 c242_4) ?_
  kernel_rfl
def b242_3 (c : Cx) (j4 : F4) (n3 : Nat) (t2 t3 t5 : V) (H : List Blk) : X := bnd (trimF true n3 [t2, t3, t5] H) fun H => p (aFld 7 t3) fun x1 => (aLoad false 1 x1).go H fun x2 H => (aLen 1 x2).go H fun x3 H => p (aBin .lss t5 x3) fun x4 => condK x4 ((fun (t2 t3 t5 x1 x2 x3 x4 : V) (H : L) (c : Cx) (j4 : F4) => newK 1 H fun q H => drawnK c.pc c.ic l242_0 q (cn 0 122 [(2, t2), (3, t3), (5, t5), (72, t5), (73, x1), (74, x2), (75, x3), (76, x4)]) H fun ts4 H => j4 (getT ts4 2) (getT ts4 3) (getT ts4 5) (getT ts4 7) H) t2 t3 t5 x1 x2 x3 x4 H c j4) (some (ct, H))
def j242_3 (c : Cx) : Nat → Nat → F3 := recN (fun _ _ _ _ _ => none) fun ih n3 => b242_3 c (j242_4 c (ih n3)) n3
theorem o242_3 (c : Cx) : d242_3 c = j242_3 c := by
  unfold j242_3
  refine recN_ok (by kernel_rfl) fun m => funext fun n3 => ?_
  simp only [← o242_4]
  funext t2 t3 t5 H
  refine Eq.trans (jnK_eq 15950735949418990474845684723364134956 _ _ H _) ?_
  kernel_rfl
def b242_2 (c : Cx) (j3 : Nat → Nat → F3) (t2 t3 t71 : V) (H : List Blk) : X := condK t71 (some (cf, H)) (j3 c.n H.length t2 t3 (ci 0) H)
def j242_2 (c : Cx) : F3 := b242_2 c (j242_3 c)
theorem o242_2 (c : Cx) : d242_2 c = j242_2 c := by
  unfold j242_2; rw [← o242_3]
  funext t2 t3 t71 H
  refine Eq.trans (stepK_jn c.pc c.ic c.n _ H _ 10633823966279329344413697917065363468 c242_2) ?_
  kernel_rfl
def b242_1 (c : Cx) (j2 : F3) (t0 t1 : V) (H : List Blk) : X := newK 2 H fun q H => (aBox (q + 0) t0).go H fun x1 H => (aBox (q + 1) t1).go H fun x2 H => p (aFld 1 x2) fun x3 => (aLoad false 1 x3).go H fun x4 H => p (aBin .lss x4 (ci 1)) fun x5 => guardK x5 false (fun k => (aFld 1 x2).go H k) H fun x6 H => (fun (x1 x2 x5 x6 : V) (H : L) (c : Cx) (j2 : F3) => guardK x5 false (fun k => (aLoad false 1 x6).go H k) H fun x7 H => guardK x5 false (fun k => (aBin .gtr x7 (ci 3)).go H k) H fun x8 H => p (aPick x5 ct x8) fun x9 => guardK x9 false (fun k => (aFld 2 x2).go H k) H fun x10 H => (fun (x1 x2 x9 x10 : V) (H : L) (c : Cx) (j2 : F3) => guardK x9 false (fun k => (aLoad false 1 x10).go H k) H fun x11 H => guardK x9 false (fun k => (aBin .lss x11 (ci 0)).go H k) H fun x12 H => p (aPick x9 ct x12) fun x13 => guardK x13 false (fun k => (aFld 2 x2).go H k) H fun x14 H => (fun (x1 x2 x13 x14 : V) (H : L) (c : Cx) (j2 : F3) => guardK x13 false (fun k => (aLoad false 1 x14).go H k) H fun x15 H => guardK x13 false (fun k => (aBin .gtr x15 (ci 511)).go H k) H fun x16 H => p (aPick x13 ct x16) fun x17 => guardK x17 false (fun k => (aFld 4 x2).go H k) H fun x18 H => (fun (x1 x2 x17 x18 : V) (H : L) (c : Cx) (j2 : F3) => guardK x17 false (fun k => (aLoad true 2 x18).go H k) H fun x19 H => guardK x17 false (fun k => (aCall c.pc 285 [x19]).go H k) H fun x20 H => guardK x17 false (fun k => (aUn .not x20).go H k) H fun x21 H => p (aPick x17 ct x21) fun x22 => condK x22 (some (cf, H)) ((fun (x1 x2 : V) (H : L) (j2 : F3) => p (aFld 1 x2) fun x23 => (fun (x1 x2 x23 : V) (H : L) (j2 : F3) => (aLoad false 1 x23).go H fun x24 H => p (aBin .neq x24 (ci 1)) fun x25 => guardK x25 true (fun k => (aFld 4 x2).go H k) H fun x26 H => guardK x25 true (fun k => (aFld 0 x26).go H k) H fun x27 H => (fun (x1 x2 x25 x27 : V) (H : L) (j2 : F3) => guardK x25 true (fun k => (aLoad false 1 x27).go H k) H fun x28 H => guardK x25 true (fun k => (aBin .gtr x28 (ci 0)).go H k) H fun x29 H => guardK x25 true (fun k => (aMov x29).go H k) H fun x30 H => guardK x30 false (fun k => (aFld 4 x2).go H k) H fun x31 H => (fun (x1 x2 x25 x30 x31 : V) (H : L) (j2 : F3) => guardK x30 false (fun k => (aFld 1 x31).go H k) H fun x32 H => guardK x30 false (fun k => (aLoad false 1 x32).go H k) H fun x33 H => guardK x30 false (fun k => (aLen 1 x33).go H k) H fun x34 H => guardK x30 false (fun k => (aBin .gtr x34 (ci 0)).go H k) H fun x35 H => (fun (x1 x2 x25 x30 x35 : V) (H : L) (j2 : F3) => guardK x25 true (fun k => (aPick x30 ct x35).go H k) H fun x36 H => p (aPick x25 x36 cf) fun x37 => guardK x37 false (fun k => (aFld 1 x2).go H k) H fun x38 H => guardK x37 false (fun k => (aLoad false 1 x38).go H k) H fun x39 H => (fun (x1 x2 x37 x39 : V) (H : L) (j2 : F3) => guardK x37 false (fun k => (aBin .neq x39 (ci 2)).go H k) H fun x40 H => guardK x37 false (fun k => (aMov x40).go H k) H fun x41 H => guardK x41 true (fun k => (aFld 7 x2).go H k) H fun x42 H => guardK x41 true (fun k => (aLoad false 1 x42).go H k) H fun x43 H => (fun (x1 x2 x37 x41 x43 : V) (H : L) (j2 : F3) => guardK x41 true (fun k => (aLen 1 x43).go H k) H fun x44 H => guardK x41 true (fun k => (aBin .gtr x44 (ci 0)).go H k) H fun x45 H => guardK x37 false (fun k => (aPick x41 x45 cf).go H k) H fun x46 H => p (aPick x37 ct x46) fun x47 => condK x47 (some (cf, H)) ((fun (x1 x2 : V) (H : L) (j2 : F3) => p (aFld 1 x2) fun x48 => (aLoad false 1 x48).go H fun x49 H => p (aBin .eql x49 (ci 3)) fun x50 => p (aFld 6 x2) fun x51 => (fun (x1 x2 x50 x51 : V) (H : L) (j2 : F3) => (aLoad false 1 x51).go H fun x52 H => p (aBin .neq x52 (.d (.str []))) fun x53 => p (aEqn 3 true x50 x53) fun x54 => guardK x54 false (fun k => (aFld 6 x2).go H k) H fun x55 H => (fun (x1 x2 x54 x55 : V) (H : L) (j2 : F3) => guardK x54 false (fun k => (aLoad false 1 x55).go H k) H fun x56 H => guardK x54 false (fun k => (aLen 0 x56).go H k) H fun x57 H => guardK x54 false (fun k => (aBin .gtr x57 (ci 120)).go H k) H fun x58 H => p (aPick x54 ct x58) fun x59 => j2 x1 x2 x59 H) x1 x2 x54 x55 H j2) x1 x2 x50 x51 H j2) x1 x2 H j2)) x1 x2 x37 x41 x43 H j2) x1 x2 x37 x39 H j2) x1 x2 x25 x30 x35 H j2) x1 x2 x25 x30 x31 H j2) x1 x2 x25 x27 H j2) x1 x2 x23 H j2) x1 x2 H j2)) x1 x2 x17 x18 H c j2) x1 x2 x13 x14 H c j2) x1 x2 x9 x10 H c j2) x1 x2 x5 x6 H c j2
def j242_1 (c : Cx) : F2 := b242_1 c (j242_2 c)
theorem o242_1 (c : Cx) : d242_1 c = j242_1 c := by
  unfold j242_1; rw [← o242_2]
  funext t0 t1 H
  refine Eq.trans (stepK_jn c.pc c.ic c.n _ H _ 5316911983139663491615228241121378307 c242_1) ?_
  kernel_rfl
def b242_0 (c : Cx) (j1 : F2) (t0 t1 : V) (H : List Blk) : X := j1 t0 t1 H
def s242 (c : Cx) (args : List V) (H : List Blk) : X := argsK 2 args (b242_0 c (j242_1 c) (getT args 0) (getT args 1) H)
theorem e242 (pc ic n args H) : runK pc ic n c242 args H = s242 ⟨pc, ic, n⟩ args H := by
  unfold s242; rw [← o242_1]
  kernel_rfl
def L242 : Leaf := ⟨c242, fun pc ic n => s242 ⟨pc, ic, n⟩, e242⟩
theorem kk242 : chkFn Go.Proofs.Tryz.prog ET 242 c242 = true := by kernel_rfl

end
end Go.Vm.T
