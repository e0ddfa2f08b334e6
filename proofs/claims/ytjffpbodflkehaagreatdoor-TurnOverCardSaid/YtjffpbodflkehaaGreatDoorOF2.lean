/- Functions of the program: the machine's code, plain Lean, their equality; that the code is the program's. Printed by a program of mine. -/
import Derived.Test.YtjffpbodflkehaaGreatDoorOZ
import Derived.KernelRfl
set_option maxRecDepth 100000
set_option linter.unusedVariables false
namespace Go.Vm.T
open Go.Vm.I
noncomputable section
def c193_3 : C := (.seq (.seq (.reg 0 none [m 48 (.t 11) 0, o 49 (.bin .neq) [.t 48, .c (ci 0)] 1]) (.cond (.t 49) (.seq (.reg 0 none [o 50 (.load true 7) [.t 3] 0, m 51 (.t 11) 1, ⟨none, .store 7, [.t 6, .t 50], none, 0, 2⟩, m 7 (.t 51) 3]) .ret) .skip)) (.seq (.reg 1 none [o 52 (.fld 2) [.t 9] 0, o 53 (.load false 1) [.t 52] 1, o 54 (.cloneA 0 4 48) [.t 53] 2, o 55 (.fld 2) [.t 9] 3, ⟨none, .store 1, [.t 55, .t 54], none, 0, 4⟩]) (.seq (.reg 0 none [o 56 (.fld 2) [.t 9] 0, o 57 (.load false 1) [.t 56] 1, o 58 (.fld 0) [.t 5] 2, o 59 (.load false 1) [.t 58] 3, o 60 (.load true 4) [.t 12] 4, o 61 (.ix 4) [.t 57, .t 59] 5, ⟨none, .store 4, [.t 61, .t 60], none, 0, 6⟩]) (.seq (.reg 0 none [o 62 (.load true 7) [.t 9] 0, ⟨none, .store 7, [.t 6, .t 62], none, 0, 1⟩, m 7 (.c (ci 0)) 2]) .ret))))
def l193_0 : List O := [o 32 (.fld 2) [.t 9] 0, ⟨some 33, .load false 1, [.t 32], none, 1, 1⟩, o 34 (.fld 0) [.t 5] 2, ⟨some 35, .load false 1, [.t 34], none, 4, 3⟩, ⟨some 36, .ix 4, [.t 33, .t 35], none, 15, 4⟩, ⟨some 37, .load true 4, [.t 36], none, 31, 5⟩, m 38 (.t 10) 6, m 39 (.t 1) 7, m 40 (.t 8) 8, ⟨some 41, .ix 1, [.t 39, .t 40], none, 384, 9⟩, ⟨some 42, .load false 1, [.t 41], none, 896, 10⟩, o 43 (.fld 1) [.t 5] 11, ⟨some 44, .load false 1, [.t 43], none, 2048, 12⟩, ⟨some 45, .call 92, [.t 37, .t 38, .t 42, .t 44], none, 8191, 13⟩, ⟨some 31, .mov, [.t 45], none, 16383, 14⟩, ⟨some 46, .ext 0, [.t 31], none, 32767, 15⟩, ⟨some 47, .ext 1, [.t 31], none, 32767, 16⟩, o 12 (.alloc 0 z0) [] 17, ⟨none, .store 4, [.t 12, .t 46], none, 196607, 18⟩, ⟨some 11, .mov, [.t 47], none, 524287, 19⟩]
def c193_2 : C := (.seq (.seq (.reg 0 none [m 27 (.t 11) 0, o 28 (.bin .neq) [.t 27, .c (ci 0)] 1]) (.cond (.t 28) (.seq (.reg 0 none [o 29 (.load true 7) [.t 3] 0, m 30 (.t 11) 1, ⟨none, .store 7, [.t 6, .t 29], none, 0, 2⟩, m 7 (.t 30) 3]) .ret) .skip)) (.seq (.reg 1 (some ⟨false, [0, 1, 2, 3, 4, 5, 6, 7, 8, 9, 10, 11, 12, 13, 14, 15, 17, 18, 16, 19], 63⟩) l193_0) (.jn 27670116110564334184 c193_3)))
def l193_1 : List O := [o 17 (.load true 7) [.t 3] 0, m 18 (.t 1) 1, m 19 (.t 8) 2, ⟨some 20, .sub 1 false true false, [.t 18, .t 19], none, 6, 3⟩, o 21 (.fld 0) [.t 5] 4, ⟨some 22, .load false 1, [.t 21], none, 16, 5⟩, ⟨some 23, .call 97, [.t 17, .t 20, .t 22], none, 63, 6⟩, ⟨some 16, .mov, [.t 23], none, 127, 7⟩, ⟨some 24, .ext 0, [.t 16], none, 255, 8⟩, ⟨some 25, .ext 1, [.t 16], none, 255, 9⟩, ⟨some 26, .ext 2, [.t 16], none, 255, 10⟩, o 9 (.alloc 0 z14) [] 11, ⟨none, .store 7, [.t 9, .t 24], none, 2559, 12⟩, ⟨some 10, .mov, [.t 25], none, 7167, 13⟩, ⟨some 11, .mov, [.t 26], none, 16383, 14⟩]
def c193_1 : C := (.seq (.reg 3 none [o 3 (.box 0) [.t 0] 0, o 5 (.box 1) [.t 2] 1, o 6 (.alloc 2 z14) [] 2, m 7 (.c (ci 0)) 3]) (.seq (.reg 0 none [m 13 (.t 1) 0, o 14 (.len 1) [.t 13] 1, o 15 (.bin .sub) [.t 14, .c (ci 1)] 2, m 8 (.t 15) 3]) (.seq (.reg 1 (some ⟨false, [0, 1, 2, 3, 4, 5, 6, 7, 8, 11, 12, 9, 13, 10, 14], 63⟩) l193_1) (.jn 18446744073709555562 c193_2))))
def c193 : Fn := { fid := 193, np := 3, ntmps := 63, body := (.jn 9223372036854775815 c193_1), res := [.cell 6 true 7, .tmp 7] }
def L193 : Leaf := coldL c193
theorem kk193 : chkFn Go.Proofs.Tryz.prog ET 193 c193 = true := by kernel_rfl

def c194_2 : C := (.seq (.seq (.reg 0 none [m 33 (.t 15) 0, o 34 (.bin .neq) [.t 33, .c (ci 0)] 1]) (.cond (.t 34) (.seq (.reg 0 none [o 35 (.load true 7) [.t 5] 0, m 36 (.t 15) 1, ⟨none, .store 7, [.t 10, .t 35], none, 0, 2⟩, m 11 (.c (ci 0)) 3, m 12 (.t 36) 4]) .ret) .skip)) (.seq (.reg 0 (some ⟨true, [0, 1, 2, 3, 4, 5, 6, 7, 8, 9, 10, 11, 12, 13, 16, 14, 17, 15, 18], 59⟩) [o 38 (.load true 7) [.t 13] 0, m 39 (.t 2) 1, m 40 (.t 14) 2, m 41 (.t 1) 3, m 42 (.t 1) 4, ⟨some 43, .len 1, [.t 42], none, 16, 5⟩, ⟨some 44, .bin .sub, [.t 43, .c (ci 1)], none, 48, 6⟩, ⟨some 45, .ix 1, [.t 41, .t 44], none, 120, 7⟩, ⟨some 46, .load false 1, [.t 45], none, 248, 8⟩, o 47 (.load true 8) [.t 8] 9, m 48 (.t 4) 10, ⟨some 49, .call 267, [.t 38, .t 39, .t 40, .t 46, .t 47, .t 48], none, 2047, 11⟩, ⟨some 37, .mov, [.t 49], none, 4095, 12⟩, ⟨some 50, .ext 0, [.t 37], none, 8191, 13⟩, ⟨some 51, .ext 1, [.t 37], none, 8191, 14⟩, ⟨some 52, .ext 2, [.t 37], none, 8191, 15⟩, ⟨none, .store 7, [.t 13, .t 50], none, 16383, 16⟩, ⟨some 16, .mov, [.t 51], none, 98303, 17⟩, ⟨some 15, .mov, [.t 52], none, 262143, 18⟩]) (.seq (.seq (.reg 0 none [m 53 (.t 15) 0, o 54 (.bin .neq) [.t 53, .c (ci 0)] 1]) (.cond (.t 54) (.seq (.reg 0 none [o 55 (.load true 7) [.t 5] 0, m 56 (.t 15) 1, ⟨none, .store 7, [.t 10, .t 55], none, 0, 2⟩, m 11 (.c (ci 0)) 3, m 12 (.t 56) 4]) .ret) .skip)) (.seq (.reg 0 none [o 57 (.load true 7) [.t 13] 0, m 58 (.t 16) 1, ⟨none, .store 7, [.t 10, .t 57], none, 0, 2⟩, m 11 (.t 58) 3, m 12 (.c (ci 0)) 4]) .ret))))
def l194_0 : List O := [o 22 (.load true 7) [.t 5] 0, m 23 (.t 1) 1, m 24 (.t 1) 2, ⟨some 25, .len 1, [.t 24], none, 4, 3⟩, ⟨some 26, .bin .sub, [.t 25, .c (ci 1)], none, 12, 4⟩, ⟨some 27, .sub 1 false true false, [.t 23, .t 26], none, 30, 5⟩, m 28 (.t 2) 6, ⟨some 29, .call 97, [.t 22, .t 27, .t 28], none, 127, 7⟩, ⟨some 21, .mov, [.t 29], none, 255, 8⟩, ⟨some 30, .ext 0, [.t 21], none, 511, 9⟩, ⟨some 31, .ext 1, [.t 21], none, 511, 10⟩, ⟨some 32, .ext 2, [.t 21], none, 511, 11⟩, o 13 (.alloc 0 z14) [] 12, ⟨none, .store 7, [.t 13, .t 30], none, 5119, 13⟩, ⟨some 14, .mov, [.t 31], none, 14335, 14⟩, ⟨some 15, .mov, [.t 32], none, 32767, 15⟩]
def c194_1 : C := (.seq (.reg 3 none [o 5 (.box 0) [.t 0] 0, o 8 (.box 1) [.t 3] 1, o 10 (.alloc 2 z14) [] 2, m 11 (.c (ci 0)) 3, m 12 (.c (ci 0)) 4]) (.seq (.seq (.reg 0 none [m 17 (.t 1) 0, o 18 (.len 1) [.t 17] 1, o 19 (.bin .eql) [.t 18, .c (ci 0)] 2]) (.cond (.t 19) (.seq (.reg 0 none [o 20 (.load true 7) [.t 5] 0, ⟨none, .store 7, [.t 10, .t 20], none, 0, 1⟩, m 11 (.c (ci 0)) 2, m 12 (.c (ci 2)) 3]) .ret) .skip)) (.seq (.reg 1 (some ⟨false, [0, 1, 2, 3, 4, 5, 6, 7, 8, 9, 12, 13, 10, 14, 11, 15], 59⟩) l194_0) (.jn 1152921504606905654 c194_2))))
def c194 : Fn := { fid := 194, np := 5, ntmps := 59, body := (.jn 576460752303423519 c194_1), res := [.cell 10 true 7, .tmp 11, .tmp 12] }
def L194 : Leaf := coldL c194
theorem kk194 : chkFn Go.Proofs.Tryz.prog ET 194 c194 = true := by kernel_rfl

def c196_1 : C := (.seq (.reg 3 none [o 2 (.box 0) [.t 0] 0, o 3 (.box 1) [.t 1] 1, o 4 (.alloc 2 z1) [] 2]) (.seq (.reg 0 none [o 8 (.fld 2) [.t 2] 0, o 9 (.load false 1) [.t 8] 1, o 10 (.fld 0) [.t 3] 2, o 11 (.load false 1) [.t 10] 3, o 12 (.ix 4) [.t 9, .t 11] 4, o 13 (.fld 3) [.t 12] 5, o 14 (.load false 1) [.t 13] 6, m 5 (.t 14) 7]) (.seq (.reg 0 none [m 16 (.t 5) 0, o 17 (.fld 1) [.t 3] 1, o 18 (.load false 1) [.t 17] 2, o 19 (.icall 254) [.t 16, .t 18, .c (.fn 273 [])] 3, m 15 (.t 19) 4, o 20 (.ext 0) [.t 15] 5, o 21 (.ext 1) [.t 15] 6, m 6 (.t 20) 7, m 7 (.t 21) 8]) (.seq (.seq (.reg 0 none [m 22 (.t 7) 0, o 23 (.un .not) [.t 22] 1]) (.cond (.t 23) (.seq (.reg 0 none [o 24 (.build z1 []) [] 0, ⟨none, .store 8, [.t 4, .t 24], none, 0, 1⟩]) .ret) .skip)) (.seq (.reg 0 none [m 25 (.t 5) 0, m 26 (.t 6) 1, o 27 (.ix 8) [.t 25, .t 26] 2, o 28 (.load true 8) [.t 27] 3, ⟨none, .store 8, [.t 4, .t 28], none, 0, 4⟩]) .ret)))))
def c196 : Fn := { fid := 196, np := 2, ntmps := 29, body := (.jn 536870915 c196_1), res := [.cell 4 true 8] }
def d196_1 (c : Cx) (t0 t1 : V) (H : List Blk) : X := stepK c.pc c.ic c.n (.jn 536870915 c196_1) (cn 0 29 [(0, t0), (1, t1)]) H (kTop c196.res)
def b196_1 (c : Cx) (t0 t1 : V) (H : List Blk) : X := newK 3 H fun q H => (aBox (q + 0) t0).go H fun x1 H => (aBox (q + 1) t1).go H fun x2 H => (aAlloc (q + 2) z1).go H fun x3 H => p (aFld 2 x1) fun x4 => (aLoad false 1 x4).go H fun x5 H => p (aFld 0 x2) fun x6 => (fun (x2 x3 x5 x6 : V) (H : L) (c : Cx) => (aLoad false 1 x6).go H fun x7 H => p (aIx 4 x5 x7) fun x8 => p (aFld 3 x8) fun x9 => (aLoad false 1 x9).go H fun x10 H => p (aFld 1 x2) fun x11 => (fun (x3 x10 x11 : V) (H : L) (c : Cx) => (aLoad false 1 x11).go H fun x12 H => icK c 254 [x10, x12, (.fn 273 [])] H fun x13 H => p (aExt 0 x13) fun x14 => p (aExt 1 x13) fun x15 => p (aUn .not x15) fun x16 => condK x16 (p (aBuild z1 [] []) fun x17 => (aStore 8 x3 x17).go H fun _ H => bnd (loadV true 8 x3 H) fun x18 => some (x18, H)) (p (aIx 8 x10 x14) fun x19 => (aLoad true 8 x19).go H fun x20 H => (aStore 8 x3 x20).go H fun _ H => bnd (loadV true 8 x3 H) fun x21 => some (x21, H))) x3 x10 x11 H c) x2 x3 x5 x6 H c
def j196_1 (c : Cx) : F2 := b196_1 c
theorem o196_1 (c : Cx) : d196_1 c = j196_1 c := by
  unfold j196_1
  funext t0 t1 H
  refine Eq.trans (stepK_jn c.pc c.ic c.n _ H _ 536870915 c196_1) ?_
  kernel_rfl
def b196_0 (c : Cx) (j1 : F2) (t0 t1 : V) (H : List Blk) : X := j1 t0 t1 H
def s196 (c : Cx) (args : List V) (H : List Blk) : X := argsK 2 args (b196_0 c (j196_1 c) (getT args 0) (getT args 1) H)
theorem e196 (pc ic n args H) : runK pc ic n c196 args H = s196 ⟨pc, ic, n⟩ args H := by
  unfold s196; rw [← o196_1]
  kernel_rfl
def L196 : Leaf := ⟨c196, fun pc ic n => s196 ⟨pc, ic, n⟩, e196⟩
theorem kk196 : chkFn Go.Proofs.Tryz.prog ET 196 c196 = true := by kernel_rfl

def c197 : Fn := { fid := 197, np := 1, ntmps := 11, body := (.seq (.reg 0 none [m 3 (.t 0) 0, o 4 (.len 1) [.t 3] 1, m 2 (.t 4) 2]) (.reg 0 none [m 5 (.t 0) 0, m 6 (.t 2) 1, m 7 (.t 2) 2, o 8 (.toInt .u64) [.t 7] 3, o 9 (.call 275) [.t 8] 4, o 10 (.icall 274) [.t 5, .c (ci 0), .t 6, .t 9] 5])), res := [] }
def L197 : Leaf := coldL c197
theorem kk197 : chkFn Go.Proofs.Tryz.prog ET 197 c197 = true := by kernel_rfl

def c198_3 : C := (.seq (.seq (.reg 0 none [m 29 (.t 5) 0, m 30 (.t 4) 1, o 31 (.len 1) [.t 30] 2, o 32 (.bin .lss) [.t 29, .t 31] 3]) (.cond (.t 32) .skip (.exit 2))) (.seq (.blk 3 (.seq (.reg 0 (some ⟨true, [], 61⟩) [m 35 (.t 4) 0, m 36 (.t 5) 1, ⟨some 37, .ix 1, [.t 35, .t 36], none, 3, 2⟩, ⟨some 38, .load false 1, [.t 37], none, 7, 3⟩, m 39 (.t 4) 4, m 40 (.t 5) 5, ⟨some 41, .bin .sub, [.t 40, .c (ci 1)], none, 32, 6⟩, ⟨some 42, .ix 1, [.t 39, .t 41], none, 112, 7⟩, ⟨some 43, .load false 1, [.t 42], none, 240, 8⟩, ⟨some 44, .bin .neq, [.t 38, .t 43], none, 511, 9⟩]) (.cond (.t 44) (.seq (.reg 0 none [m 45 (.t 0) 0, m 46 (.t 3) 1, m 47 (.t 4) 2, m 48 (.t 5) 3, o 49 (.ix 1) [.t 47, .t 48] 4, o 50 (.load false 1) [.t 49] 5, o 51 (.ix 1) [.t 45, .t 46] 6, ⟨none, .store 1, [.t 51, .t 50], none, 0, 7⟩]) (.reg 0 none [m 52 (.t 3) 0, o 53 (.bin .add) [.t 52, .c (ci 1)] 1, m 3 (.t 53) 2])) .skip))) (.reg 0 none [m 33 (.t 5) 0, o 34 (.bin .add) [.t 33, .c (ci 1)] 1, m 5 (.t 34) 2])))
def c198_s1 : C := (.seq (.reg 0 none [m 54 (.t 0) 0, m 55 (.t 3) 1, o 56 (.sub 1 true false false) [.t 54, .t 55] 2, ⟨none, .clear 1 [(.d (.str []))], [.t 56], none, 0, 3⟩]) (.seq (.reg 0 none [m 57 (.t 0) 0, m 58 (.t 3) 1, o 59 (.sub 1 false true false) [.t 57, .t 58] 2, m 2 (.t 59) 3]) .ret))
def c198_s2 : C := (.reg 0 none [m 14 (.t 3) 0, o 15 (.bin .add) [.t 14, .c (ci 1)] 1, m 3 (.t 15) 2])
def c198_2 : C := (.seq (.seq (.reg 0 none [m 10 (.t 3) 0, m 11 (.t 0) 1, o 12 (.len 1) [.t 11] 2, o 13 (.bin .lss) [.t 10, .t 12] 3]) (.cond (.t 13) .skip (.exit 0))) (.seq (.blk 1 (.seq (.reg 0 (some ⟨true, [], 61⟩) [m 16 (.t 0) 0, m 17 (.t 3) 1, ⟨some 18, .ix 1, [.t 16, .t 17], none, 3, 2⟩, ⟨some 19, .load false 1, [.t 18], none, 7, 3⟩, m 20 (.t 0) 4, m 21 (.t 3) 5, ⟨some 22, .bin .sub, [.t 21, .c (ci 1)], none, 32, 6⟩, ⟨some 23, .ix 1, [.t 20, .t 22], none, 112, 7⟩, ⟨some 24, .load false 1, [.t 23], none, 240, 8⟩, ⟨some 25, .bin .eql, [.t 19, .t 24], none, 511, 9⟩]) (.cond (.t 25) (.seq (.reg 0 none [m 26 (.t 0) 0, m 27 (.t 3) 1, o 28 (.sub 1 true false false) [.t 26, .t 27] 2, m 4 (.t 28) 3]) (.seq (.seq (.reg 0 none [m 5 (.c (ci 1)) 0]) (.blk 2 (.loop 6917529027641081913 false c198_3))) c198_s1)) .skip))) c198_s2))
def c198_s3 : C := (.seq (.reg 0 none [m 60 (.t 0) 0, m 2 (.t 60) 1]) .ret)
def c198_1 : C := (.seq (.reg 0 none [m 2 (.c .nilS) 0]) (.seq (.seq (.reg 0 none [m 6 (.t 0) 0, o 7 (.len 1) [.t 6] 1, o 8 (.bin .lss) [.t 7, .c (ci 2)] 2]) (.cond (.t 8) (.seq (.reg 0 none [m 9 (.t 0) 0, m 2 (.t 9) 1]) .ret) .skip)) (.seq (.seq (.reg 0 none [m 3 (.c (ci 1)) 0]) (.blk 0 (.loop 4611686018427387913 false c198_2))) c198_s3)))
def c198 : Fn := { fid := 198, np := 1, ntmps := 61, body := (.jn 2305843009213693953 c198_1), res := [.tmp 2] }
def d198_1 (c : Cx) (t0 : V) (H : List Blk) : X := stepK c.pc c.ic c.n (.jn 2305843009213693953 c198_1) (cn 0 61 [(0, t0)]) H (kTop c198.res)
def k198_1 (c : Cx) : KT := thenK (stepK c.pc c.ic c.n c198_s3) (kTop c198.res)
def k198_2 (c : Cx) : KT := blkK 0 (k198_1 c)
def d198_2 (c : Cx) (m n2 : Nat) (t0 t3 : V) (H : List Blk) : X := jnK (loopsK (stepK c.pc c.ic c.n c198_2) 4611686018427387913 false n2 m) (cn 0 61 [(0, t0), (3, t3)]) H (k198_2 c) 4611686018427387913
def k198_3 (c : Cx) (m2 n2 : Nat) : KT := thenK (fun ts H k => jnK (loopsK (stepK c.pc c.ic c.n c198_2) 4611686018427387913 false n2 m2) (maskT 4611686018427387913 0 ts) H k 4611686018427387913) (k198_2 c)
def k198_4 (c : Cx) (m2 n2 : Nat) : KT := thenK (stepK c.pc c.ic c.n c198_s2) (k198_3 c m2 n2)
def k198_5 (c : Cx) (m2 n2 : Nat) : KT := blkK 1 (k198_4 c m2 n2)
def k198_6 (c : Cx) (m2 n2 : Nat) : KT := thenK (stepK c.pc c.ic c.n c198_s1) (k198_5 c m2 n2)
def k198_7 (c : Cx) (m2 n2 : Nat) : KT := blkK 2 (k198_6 c m2 n2)
def d198_3 (c : Cx) (m2 n2 : Nat) (m n3 : Nat) (t0 t3 t4 t5 : V) (H : List Blk) : X := jnK (loopsK (stepK c.pc c.ic c.n c198_3) 6917529027641081913 false n3 m) (cn 0 61 [(0, t0), (3, t3), (4, t4), (5, t5)]) H (k198_7 c m2 n2) 6917529027641081913
def b198_3 (c : Cx) (r3 : F4) (n3 : Nat) (t0 t3 t4 t5 : V) (H : List Blk) : X := (aLen 1 t4).go H fun x1 H => p (aBin .lss t5 x1) fun x2 => condK x2 ((fun (t0 t3 t4 t5 : V) (H : L) (r3 : F4) => p (aIx 1 t4 t5) fun x3 => (aLoad false 1 x3).go H fun x4 H => (fun (t0 t3 t4 t5 x4 : V) (H : L) (r3 : F4) => p (aBin .sub t5 (ci 1)) fun x5 => p (aIx 1 t4 x5) fun x6 => (aLoad false 1 x6).go H fun x7 H => p (aBin .neq x4 x7) fun x8 => condK x8 ((fun (t0 t3 t4 t5 : V) (H : L) (r3 : F4) => p (aIx 1 t4 t5) fun x9 => (aLoad false 1 x9).go H fun x10 H => p (aIx 1 t0 t3) fun x11 => (aStore 1 x11 x10).go H fun _ H => p (aBin .add t3 (ci 1)) fun x12 => p (aBin .add t5 (ci 1)) fun x13 => r3 t0 x12 t4 x13 H) t0 t3 t4 t5 H r3) (p (aBin .add t5 (ci 1)) fun x14 => r3 t0 t3 t4 x14 H)) t0 t3 t4 t5 x4 H r3) t0 t3 t4 t5 H r3) ((fun (t0 t3 : V) (H : L) => (aSub 1 true false false t0 [t3]).go H fun x15 H => (aClear 1 [(.d (.str []))] x15).go H fun _ H => (aSub 1 false true false t0 [t3]).go H fun x16 H => some (x16, H)) t0 t3 H)
def j198_3 (c : Cx) (r2 : F2) : Nat → Nat → F4 := recN (fun _ _ _ _ _ _ => none) fun ih n3 => b198_3 c (ih n3) n3
theorem o198_3 (c : Cx) (m2 n2 : Nat) : d198_3 c m2 n2 = j198_3 c (d198_2 c m2 n2) := by
  unfold j198_3
  refine recN_ok (by kernel_rfl) fun m => funext fun n3 => ?_
  funext t0 t3 t4 t5 H
  refine Eq.trans (jnK_eq 6917529027641081913 _ _ H _) ?_
  kernel_rfl
def b198_2 (c : Cx) (r2 : F2) (j3 : Nat → Nat → F4) (n2 : Nat) (t0 t3 : V) (H : List Blk) : X := (aLen 1 t0).go H fun x1 H => p (aBin .lss t3 x1) fun x2 => condK x2 ((fun (t0 t3 : V) (H : L) (c : Cx) (j3 : Nat → Nat → F4) (r2 : F2) => p (aIx 1 t0 t3) fun x3 => (aLoad false 1 x3).go H fun x4 H => (fun (t0 t3 x4 : V) (H : L) (c : Cx) (j3 : Nat → Nat → F4) (r2 : F2) => p (aBin .sub t3 (ci 1)) fun x5 => p (aIx 1 t0 x5) fun x6 => (aLoad false 1 x6).go H fun x7 H => p (aBin .eql x4 x7) fun x8 => condK x8 ((aSub 1 true false false t0 [t3]).go H fun x9 H => j3 c.n H.length t0 t3 x9 (ci 1) H) (p (aBin .add t3 (ci 1)) fun x10 => r2 t0 x10 H)) t0 t3 x4 H c j3 r2) t0 t3 H c j3 r2) (some (t0, H))
def j198_2 (c : Cx) : Nat → Nat → F2 := recN (fun _ _ _ _ => none) fun ih n2 => b198_2 c (ih n2) (j198_3 c (ih n2)) n2
theorem o198_2 (c : Cx) : d198_2 c = j198_2 c := by
  unfold j198_2
  refine recN_ok (by kernel_rfl) fun m => funext fun n2 => ?_
  simp only [← o198_3]
  funext t0 t3 H
  refine Eq.trans (jnK_eq 4611686018427387913 _ _ H _) ?_
  kernel_rfl
def b198_1 (c : Cx) (j2 : Nat → Nat → F2) (t0 : V) (H : List Blk) : X := (aLen 1 t0).go H fun x1 H => p (aBin .lss x1 (ci 2)) fun x2 => condK x2 (some (t0, H)) (j2 c.n H.length t0 (ci 1) H)
def j198_1 (c : Cx) : F1 := b198_1 c (j198_2 c)
theorem o198_1 (c : Cx) : d198_1 c = j198_1 c := by
  unfold j198_1; rw [← o198_2]
  funext t0 H
  refine Eq.trans (stepK_jn c.pc c.ic c.n _ H _ 2305843009213693953 c198_1) ?_
  kernel_rfl
def b198_0 (c : Cx) (j1 : F1) (t0 : V) (H : List Blk) : X := j1 t0 H
def s198 (c : Cx) (args : List V) (H : List Blk) : X := argsK 1 args (b198_0 c (j198_1 c) (getT args 0) H)
theorem e198 (pc ic n args H) : runK pc ic n c198 args H = s198 ⟨pc, ic, n⟩ args H := by
  unfold s198; rw [← o198_1]
  kernel_rfl
def L198 : Leaf := ⟨c198, fun pc ic n => s198 ⟨pc, ic, n⟩, e198⟩
theorem kk198 : chkFn Go.Proofs.Tryz.prog ET 198 c198 = true := by kernel_rfl

def c199_2 : C := (.seq (.seq (.reg 0 none [m 16 (.t 6) 0, m 17 (.t 0) 1, o 18 (.len 1) [.t 17] 2, o 19 (.bin .lss) [.t 16, .t 18] 3]) (.cond (.t 19) .skip (.exit 0))) (.seq (.blk 1 (.seq (.reg 0 none [m 22 (.t 0) 0, m 23 (.t 6) 1, o 24 (.ix 1) [.t 22, .t 23] 2, o 25 (.load false 1) [.t 24] 3, m 7 (.t 25) 4]) (.seq (.reg 0 none [m 26 (.t 1) 0, m 27 (.t 7) 1, o 28 .dcall [.t 26, .t 27] 2, o 29 (.un .not) [.t 28] 3]) (.cond (.t 29) (.seq (.reg 0 none [m 30 (.t 0) 0, m 31 (.t 5) 1, m 32 (.t 7) 2, o 33 (.ix 1) [.t 30, .t 31] 3, ⟨none, .store 1, [.t 33, .t 32], none, 0, 4⟩]) (.reg 0 none [m 34 (.t 5) 0, o 35 (.bin .add) [.t 34, .c (ci 1)] 1, m 5 (.t 35) 2])) .skip)))) (.reg 0 none [m 20 (.t 6) 0, o 21 (.bin .add) [.t 20, .c (ci 1)] 1, m 6 (.t 21) 2])))
def c199_s1 : C := (.seq (.reg 0 none [m 36 (.t 0) 0, m 37 (.t 5) 1, o 38 (.sub 1 true false false) [.t 36, .t 37] 2, ⟨none, .clear 1 [(.d (.str []))], [.t 38], none, 0, 3⟩]) (.seq (.reg 0 none [m 39 (.t 0) 0, m 40 (.t 5) 1, o 41 (.sub 1 false true false) [.t 39, .t 40] 2, m 4 (.t 41) 3]) .ret))
def c199_1 : C := (.seq (.reg 0 none [m 4 (.c .nilS) 0]) (.seq (.reg 0 none [m 8 (.t 0) 0, m 9 (.t 1) 1, o 10 (.icall 10276) [.t 8, .t 9] 2, m 5 (.t 10) 3]) (.seq (.seq (.reg 0 none [m 11 (.t 5) 0, o 12 (.bin .eql) [.t 11, .c (ci (-1))] 1]) (.cond (.t 12) (.seq (.reg 0 none [m 13 (.t 0) 0, m 4 (.t 13) 1]) .ret) .skip)) (.seq (.seq (.reg 0 none [m 14 (.t 5) 0, o 15 (.bin .add) [.t 14, .c (ci 1)] 1, m 6 (.t 15) 2]) (.blk 0 (.loop 8796093022307 true c199_2))) c199_s1))))
def c199 : Fn := { fid := 199, np := 2, ntmps := 42, body := (.jn 4398046511107 c199_1), res := [.tmp 4] }
def d199_1 (c : Cx) (t0 t1 : V) (H : List Blk) : X := stepK c.pc c.ic c.n (.jn 4398046511107 c199_1) (cn 0 42 [(0, t0), (1, t1)]) H (kTop c199.res)
def k199_1 (c : Cx) : KT := thenK (stepK c.pc c.ic c.n c199_s1) (kTop c199.res)
def k199_2 (c : Cx) : KT := blkK 0 (k199_1 c)
def d199_2 (c : Cx) (m n2 : Nat) (t0 t1 t5 t6 : V) (H : List Blk) : X := jnK (loopsK (stepK c.pc c.ic c.n c199_2) 8796093022307 true n2 m) (cn 0 42 [(0, t0), (1, t1), (5, t5), (6, t6)]) H (k199_2 c) 8796093022307
def b199_2 (c : Cx) (r2 : F4) (n2 : Nat) (t0 t1 t5 t6 : V) (H : List Blk) : X := bnd (trimF true n2 [t0, t1, t5, t6] H) fun H => (aLen 1 t0).go H fun x1 H => p (aBin .lss t6 x1) fun x2 => condK x2 ((fun (t0 t1 t5 t6 : V) (H : L) (c : Cx) (r2 : F4) => p (aIx 1 t0 t6) fun x3 => (aLoad false 1 x3).go H fun x4 H => callK c.ic [t1, x4] H fun x5 H => p (aUn .not x5) fun x6 => condK x6 (p (aIx 1 t0 t5) fun x7 => (aStore 1 x7 x4).go H fun _ H => p (aBin .add t5 (ci 1)) fun x8 => p (aBin .add t6 (ci 1)) fun x9 => r2 t0 t1 x8 x9 H) (p (aBin .add t6 (ci 1)) fun x10 => r2 t0 t1 t5 x10 H)) t0 t1 t5 t6 H c r2) ((fun (t0 t5 : V) (H : L) => (aSub 1 true false false t0 [t5]).go H fun x11 H => (aClear 1 [(.d (.str []))] x11).go H fun _ H => (aSub 1 false true false t0 [t5]).go H fun x12 H => some (x12, H)) t0 t5 H)
def j199_2 (c : Cx) : Nat → Nat → F4 := recN (fun _ _ _ _ _ _ => none) fun ih n2 => b199_2 c (ih n2) n2
theorem o199_2 (c : Cx) : d199_2 c = j199_2 c := by
  unfold j199_2
  refine recN_ok (by kernel_rfl) fun m => funext fun n2 => ?_
  funext t0 t1 t5 t6 H
  refine Eq.trans (jnK_eq 8796093022307 _ _ H _) ?_
  kernel_rfl
def b199_1 (c : Cx) (j2 : Nat → Nat → F4) (t0 t1 : V) (H : List Blk) : X := icK c 10276 [t0, t1] H fun x1 H => p (aBin .eql x1 (ci (-1))) fun x2 => condK x2 (some (t0, H)) (p (aBin .add x1 (ci 1)) fun x3 => j2 c.n H.length t0 t1 x1 x3 H)
def j199_1 (c : Cx) : F2 := b199_1 c (j199_2 c)
theorem o199_1 (c : Cx) : d199_1 c = j199_1 c := by
  unfold j199_1; rw [← o199_2]
  funext t0 t1 H
  refine Eq.trans (stepK_jn c.pc c.ic c.n _ H _ 4398046511107 c199_1) ?_
  kernel_rfl
def b199_0 (c : Cx) (j1 : F2) (t0 t1 : V) (H : List Blk) : X := j1 t0 t1 H
def s199 (c : Cx) (args : List V) (H : List Blk) : X := argsK 2 args (b199_0 c (j199_1 c) (getT args 0) (getT args 1) H)
theorem e199 (pc ic n args H) : runK pc ic n c199 args H = s199 ⟨pc, ic, n⟩ args H := by
  unfold s199; rw [← o199_1]
  kernel_rfl
def L199 : Leaf := ⟨c199, fun pc ic n => s199 ⟨pc, ic, n⟩, e199⟩
theorem kk199 : chkFn Go.Proofs.Tryz.prog ET 199 c199 = true := by kernel_rfl

def c200 : Fn := { fid := 200, np := 3, ntmps := 15, body := (.seq (.reg 0 none [m 4 (.c cf) 0]) (.seq (.reg 0 none [m 5 (.t 0) 0, o 6 (.call 201) [.t 5] 1, m 7 (.t 6) 2, ⟨some 8, .load true 7, [.t 1], some (7, false), 0, 3⟩, ⟨some 9, .load false 1, [.t 2], some (7, false), 0, 4⟩, ⟨some 10, .mov, [.t 0], some (7, false), 0, 5⟩, ⟨some 11, .call 79, [.t 8, .t 9, .t 10], some (7, false), 0, 6⟩, ⟨some 12, .len 1, [.t 11], some (7, false), 0, 7⟩, ⟨some 13, .bin .eql, [.t 12, .c (ci 0)], some (7, false), 0, 8⟩, o 14 .pick [.t 7, .c ct, .t 13] 9, m 4 (.t 14) 10]) .ret)), res := [.tmp 4] }
def L200 : Leaf := coldL c200
theorem kk200 : chkFn Go.Proofs.Tryz.prog ET 200 c200 = true := by kernel_rfl

def c201 : Fn := { fid := 201, np := 1, ntmps := 14, body := (.seq (.reg 0 none [m 2 (.c cf) 0]) (.seq (.reg 0 none [m 3 (.c (ci 4)) 0]) (.seq (.reg 0 none [m 4 (.t 0) 0, o 5 (.len 0) [.t 4] 1, m 6 (.t 3) 2, o 7 (.bin .geq) [.t 5, .t 6] 3, m 8 (.t 7) 4, ⟨some 9, .mov, [.t 0], some (8, true), 0, 5⟩, ⟨some 10, .mov, [.t 3], some (8, true), 0, 6⟩, ⟨some 11, .subStr false true, [.t 9, .t 10], some (8, true), 0, 7⟩, ⟨some 12, .bin .eql, [.t 11, .c (.d (.str [46, 119, 104, 46]))], some (8, true), 0, 8⟩, o 13 .pick [.t 8, .t 12, .c cf] 9, m 2 (.t 13) 10]) .ret))), res := [.tmp 2] }
def L201 : Leaf := coldL c201
theorem kk201 : chkFn Go.Proofs.Tryz.prog ET 201 c201 = true := by kernel_rfl

def c203_2 : C := (.seq (.seq (.reg 0 none [m 4 (.t 3) 0, m 5 (.t 0) 1, o 6 (.len 0) [.t 5] 2, o 7 (.bin .lss) [.t 4, .t 6] 3]) (.cond (.t 7) .skip (.exit 0))) (.seq (.blk 1 (.seq (.reg 0 none [m 10 (.t 0) 0, m 11 (.t 3) 1, o 12 .ixs [.t 10, .t 11] 2, o 13 (.bin .eql) [.t 12, .c (.d (.int .u8 0))] 3]) (.cond (.t 13) (.seq (.reg 0 none [m 2 (.c ct) 0]) .ret) .skip))) (.reg 0 none [m 8 (.t 3) 0, o 9 (.bin .add) [.t 8, .c (ci 1)] 1, m 3 (.t 9) 2])))
def c203_s1 : C := (.seq (.reg 0 none [m 2 (.c cf) 0]) .ret)
def c203_1 : C := (.seq (.reg 0 none [m 2 (.c cf) 0]) (.seq (.seq (.reg 0 none [m 3 (.c (ci 0)) 0]) (.blk 0 (.loop 32777 false c203_2))) c203_s1))
def c203 : Fn := { fid := 203, np := 1, ntmps := 14, body := (.jn 16385 c203_1), res := [.tmp 2] }
def L203 : Leaf := coldL c203
theorem kk203 : chkFn Go.Proofs.Tryz.prog ET 203 c203 = true := by kernel_rfl

def l204_0 : List O := [o 27 (.load true 8) [.t 7] 0, m 28 (.t 1) 1, m 29 (.t 1) 2, ⟨some 30, .len 1, [.t 29], none, 4, 3⟩, ⟨some 31, .bin .sub, [.t 30, .c (ci 1)], none, 12, 4⟩, ⟨some 32, .ix 1, [.t 28, .t 31], none, 30, 5⟩, ⟨some 33, .load false 1, [.t 32], none, 62, 6⟩, ⟨none, .store 8, [.t 4, .t 27], none, 1, 7⟩, ⟨some 5, .mov, [.t 33], none, 255, 8⟩, ⟨some 6, .mov, [.c (ci 0)], none, 511, 9⟩]
def c204_1 : C := (.seq (.seq (.reg 0 none [m 19 (.t 8) 0, o 20 (.bin .neq) [.t 19, .c (ci 0)] 1]) (.cond (.t 20) (.seq (.reg 0 none [o 21 (.build z1 []) [] 0, m 22 (.t 8) 1, ⟨none, .store 8, [.t 4, .t 21], none, 0, 2⟩, m 5 (.c (.d (.str []))) 3, m 6 (.t 22) 4]) .ret) .skip)) (.seq (.seq (.reg 0 none [o 23 (.fld 1) [.t 7] 0, o 24 (.load false 1) [.t 23] 1, o 25 (.bin .neq) [.t 24, .c (ci 2)] 2]) (.cond (.t 25) (.seq (.reg 0 none [o 26 (.build z1 []) [] 0, ⟨none, .store 8, [.t 4, .t 26], none, 0, 1⟩, m 5 (.c (.d (.str []))) 2, m 6 (.c (ci 4)) 3]) .ret) .skip)) (.seq (.reg 0 (some ⟨false, [0, 2, 3, 7, 1, 4, 5, 6, 8, 9], 34⟩) l204_0) .ret)))
def l204_1 : List O := [o 10 (.load true 4) [.t 2] 0, m 11 (.t 1) 1, m 12 (.t 1) 2, ⟨some 13, .len 1, [.t 12], none, 4, 3⟩, ⟨some 14, .bin .sub, [.t 13, .c (ci 1)], none, 12, 4⟩, ⟨some 15, .sub 1 false true false, [.t 11, .t 14], none, 30, 5⟩, ⟨some 16, .call 12, [.t 10, .t 15], none, 63, 6⟩, ⟨some 9, .mov, [.t 16], none, 127, 7⟩, ⟨some 17, .ext 0, [.t 9], none, 255, 8⟩, ⟨some 18, .ext 1, [.t 9], none, 255, 9⟩, o 7 (.alloc 0 z1) [] 10, ⟨none, .store 8, [.t 7, .t 17], none, 1535, 11⟩, ⟨some 8, .mov, [.t 18], none, 4095, 12⟩]
def c204 : Fn := { fid := 204, np := 2, ntmps := 34, body := (.seq (.reg 2 none [o 2 (.box 0) [.t 0] 0, o 4 (.alloc 1 z1) [] 1, m 5 (.c (.d (.str []))) 2, m 6 (.c (ci 0)) 3]) (.seq (.reg 1 (some ⟨false, [0, 1, 2, 3, 4, 5, 6, 7, 8, 10, 11, 9, 12], 34⟩) l204_1) (.jn 17179869586 c204_1))), res := [.cell 4 true 8, .tmp 5, .tmp 6] }
def L204 : Leaf := coldL c204
theorem kk204 : chkFn Go.Proofs.Tryz.prog ET 204 c204 = true := by kernel_rfl

def c216_2 : C := (.seq (.seq (.reg 0 none [m 12 (.t 7) 0, o 13 (.fld 2) [.t 3] 1, o 14 (.load false 1) [.t 13] 2, o 15 (.len 1) [.t 14] 3, o 16 (.bin .lss) [.t 12, .t 15] 4, m 17 (.t 16) 5, ⟨some 18, .fld 2, [.t 3], some (17, true), 0, 6⟩, ⟨some 19, .load false 1, [.t 18], some (17, true), 0, 7⟩, ⟨some 20, .mov, [.t 7], some (17, true), 0, 8⟩, ⟨some 21, .ix 3, [.t 19, .t 20], some (17, true), 0, 9⟩, ⟨some 22, .fld 2, [.t 21], some (17, true), 0, 10⟩, ⟨some 23, .load false 1, [.t 22], some (17, true), 0, 11⟩, ⟨some 24, .mov, [.t 1], some (17, true), 0, 12⟩, ⟨some 25, .bin .lss, [.t 23, .t 24], some (17, true), 0, 13⟩, o 26 .pick [.t 17, .t 25, .c cf] 14]) (.cond (.t 26) .skip (.exit 0))) (.blk 1 (.reg 0 none [m 27 (.t 7) 0, o 28 (.bin .add) [.t 27, .c (ci 1)] 1, m 7 (.t 28) 2])))
def c216_3 : C := (.seq (.reg 1 none [m 40 (.t 8) 0, o 41 (.fld 2) [.t 3] 1, o 42 (.load false 1) [.t 41] 2, m 43 (.t 7) 3, o 44 (.sub 3 true false false) [.t 42, .t 43] 4, o 45 (.app 0 3 24) [.t 40, .t 44] 5, o 46 (.fld 2) [.t 3] 6, ⟨none, .store 1, [.t 46, .t 45], none, 0, 7⟩]) (.seq (.reg 0 none [o 47 (.load true 4) [.t 3] 0, ⟨none, .store 4, [.t 6, .t 47], none, 0, 1⟩]) .ret))
def l216_0 : List O := [o 29 (.bsl 3 z12 0 []) [] 0, o 30 (.fld 2) [.t 3] 1, ⟨some 31, .load false 1, [.t 30], none, 2, 2⟩, m 32 (.t 7) 3, ⟨some 33, .sub 3 false true false, [.t 31, .t 32], none, 14, 4⟩, ⟨some 34, .app 0 3 24, [.t 29, .t 33], none, 31, 5⟩, o 35 (.load true 2) [.t 5] 6, m 36 (.t 1) 7, ⟨some 37, .build z11 [(0, 2), (2, 1)], [.t 35, .t 36], none, 192, 8⟩, ⟨some 38, .bsl 3 z12 1 [0], [.t 37], none, 448, 9⟩, ⟨some 39, .app 1 3 24, [.t 34, .t 38], none, 1023, 10⟩, ⟨some 8, .mov, [.t 39], none, 2047, 11⟩]
def c216_s1 : C := (.seq (.reg 2 (some ⟨false, [], 48⟩) l216_0) (.jn 844424930132424 c216_3))
def c216_1 : C := (.seq (.reg 3 none [o 3 (.box 0) [.t 0] 0, o 5 (.box 1) [.t 2] 1, o 6 (.alloc 2 z10) [] 2]) (.seq (.reg 0 none [o 9 (.load true 4) [.t 3] 0, m 10 (.t 1) 1, o 11 (.call 229) [.t 9, .t 10] 2, ⟨none, .store 4, [.t 3, .t 11], none, 0, 3⟩]) (.seq (.reg 0 none [m 7 (.c (ci 0)) 0]) (.seq (.blk 0 (.loop 562949953421546 false c216_2)) c216_s1))))
def c216 : Fn := { fid := 216, np := 3, ntmps := 48, body := (.jn 281474976710663 c216_1), res := [.cell 6 true 4] }
def L216 : Leaf := coldL c216
theorem kk216 : chkFn Go.Proofs.Tryz.prog ET 216 c216 = true := by kernel_rfl

def c218 : Fn := { fid := 218, np := 1, ntmps := 5, body := (.seq (.reg 0 none [m 2 (.c (.d (.str []))) 0]) (.seq (.reg 0 none [m 3 (.t 0) 0, o 4 (.bin .add) [.c (.d (.str [46, 119, 104, 46])), .t 3] 1, m 2 (.t 4) 2]) .ret)), res := [.tmp 2] }
def L218 : Leaf := coldL c218
theorem kk218 : chkFn Go.Proofs.Tryz.prog ET 218 c218 = true := by kernel_rfl

def c220_2 : C := (.seq (.seq (.reg 0 (some ⟨true, [], 48⟩) [m 12 (.t 7) 0, o 13 (.fld 1) [.t 3] 1, ⟨some 14, .load false 1, [.t 13], none, 2, 2⟩, ⟨some 15, .len 1, [.t 14], none, 6, 3⟩, ⟨some 16, .bin .lss, [.t 12, .t 15], none, 15, 4⟩, ⟨some 17, .mov, [.t 16], none, 31, 5⟩, ⟨some 18, .fld 1, [.t 3], some (17, true), 63, 6⟩, ⟨some 19, .load false 1, [.t 18], some (17, true), 127, 7⟩, ⟨some 20, .mov, [.t 7], some (17, true), 63, 8⟩, ⟨some 21, .ix 3, [.t 19, .t 20], some (17, true), 511, 9⟩, ⟨some 22, .fld 0, [.t 21], some (17, true), 1023, 10⟩, ⟨some 23, .load true 2, [.t 22], some (17, true), 2047, 11⟩, ⟨some 24, .load true 2, [.t 4], some (17, true), 63, 12⟩, ⟨some 25, .call 248, [.t 23, .t 24], some (17, true), 8191, 13⟩, ⟨some 26, .pick, [.t 17, .t 25, .c cf], none, 16383, 14⟩]) (.cond (.t 26) .skip (.exit 0))) (.blk 1 (.reg 0 none [m 27 (.t 7) 0, o 28 (.bin .add) [.t 27, .c (ci 1)] 1, m 7 (.t 28) 2])))
def c220_3 : C := (.seq (.reg 1 none [m 40 (.t 8) 0, o 41 (.fld 1) [.t 3] 1, o 42 (.load false 1) [.t 41] 2, m 43 (.t 7) 3, o 44 (.sub 3 true false false) [.t 42, .t 43] 4, o 45 (.app 0 3 24) [.t 40, .t 44] 5, o 46 (.fld 1) [.t 3] 6, ⟨none, .store 1, [.t 46, .t 45], none, 0, 7⟩]) (.seq (.reg 0 none [o 47 (.load true 4) [.t 3] 0, ⟨none, .store 4, [.t 6, .t 47], none, 0, 1⟩]) .ret))
def l220_0 : List O := [o 29 (.bsl 3 z12 0 []) [] 0, o 30 (.fld 1) [.t 3] 1, ⟨some 31, .load false 1, [.t 30], none, 2, 2⟩, m 32 (.t 7) 3, ⟨some 33, .sub 3 false true false, [.t 31, .t 32], none, 14, 4⟩, ⟨some 34, .app 0 3 24, [.t 29, .t 33], none, 31, 5⟩, o 35 (.load true 2) [.t 4] 6, m 36 (.t 2) 7, ⟨some 37, .build z11 [(0, 2), (2, 1)], [.t 35, .t 36], none, 192, 8⟩, ⟨some 38, .bsl 3 z12 1 [0], [.t 37], none, 448, 9⟩, ⟨some 39, .app 1 3 24, [.t 34, .t 38], none, 1023, 10⟩, ⟨some 8, .mov, [.t 39], none, 2047, 11⟩]
def c220_s1 : C := (.seq (.reg 2 (some ⟨false, [], 48⟩) l220_0) (.jn 844424930132424 c220_3))
def c220_1 : C := (.seq (.reg 3 none [o 3 (.box 0) [.t 0] 0, o 4 (.box 1) [.t 1] 1, o 6 (.alloc 2 z10) [] 2]) (.seq (.reg 0 none [o 9 (.load true 4) [.t 3] 0, o 10 (.load true 2) [.t 4] 1, o 11 (.call 224) [.t 9, .t 10] 2, ⟨none, .store 4, [.t 3, .t 11], none, 0, 3⟩]) (.seq (.reg 0 none [m 7 (.c (ci 0)) 0]) (.seq (.blk 0 (.loop 562949953421532 false c220_2)) c220_s1))))
def c220 : Fn := { fid := 220, np := 3, ntmps := 48, body := (.jn 281474976710663 c220_1), res := [.cell 6 true 4] }
def L220 : Leaf := coldL c220
theorem kk220 : chkFn Go.Proofs.Tryz.prog ET 220 c220 = true := by kernel_rfl

def c221 : Fn := { fid := 221, np := 3, ntmps := 21, body := (.seq (.reg 1 none [o 3 (.box 0) [.t 0] 0, m 6 (.c (ci 0)) 1, m 7 (.c cf) 2]) (.seq (.reg 1 none [o 11 (.load true 4) [.t 3] 0, m 12 (.t 1) 1, o 13 (.call 16) [.t 11, .t 12] 2, m 10 (.t 13) 3, o 14 (.ext 0) [.t 10] 4, o 15 (.ext 1) [.t 10] 5, o 8 (.alloc 0 z1) [] 6, ⟨none, .store 8, [.t 8, .t 14], none, 0, 7⟩, m 9 (.t 15) 8]) (.seq (.reg 0 none [o 16 (.load true 8) [.t 8] 0, m 17 (.t 2) 1, o 18 (.call 44) [.t 16, .t 17] 2, o 19 (.ext 0) [.t 18] 3, o 20 (.ext 1) [.t 18] 4, m 6 (.t 19) 5, m 7 (.t 20) 6]) .ret))), res := [.tmp 6, .tmp 7] }
def L221 : Leaf := coldL c221
theorem kk221 : chkFn Go.Proofs.Tryz.prog ET 221 c221 = true := by kernel_rfl

def c222_1 : C := (.seq (.reg 2 none [o 4 (.box 0) [.t 0] 0, o 8 (.alloc 1 z0) [] 1]) (.seq (.reg 1 none [o 12 (.load true 4) [.t 4] 0, m 13 (.t 1) 1, o 14 (.call 16) [.t 12, .t 13] 2, m 11 (.t 14) 3, o 15 (.ext 0) [.t 11] 4, o 16 (.ext 1) [.t 11] 5, o 9 (.alloc 0 z1) [] 6, ⟨none, .store 8, [.t 9, .t 15], none, 0, 7⟩, m 10 (.t 16) 8]) (.seq (.reg 0 (some ⟨true, [], 23⟩) [o 17 (.load true 4) [.t 4] 0, o 18 (.load true 8) [.t 9] 1, m 19 (.t 2) 2, m 20 (.t 3) 3, ⟨some 21, .call 105, [.t 18, .t 19, .t 20], none, 14, 4⟩, ⟨some 22, .call 103, [.t 17, .t 21], none, 31, 5⟩, ⟨none, .store 4, [.t 8, .t 22], none, 63, 6⟩]) .ret)))
def c222 : Fn := { fid := 222, np := 4, ntmps := 23, body := (.jn 8388623 c222_1), res := [.cell 8 true 4] }
def L222 : Leaf := coldL c222
theorem kk222 : chkFn Go.Proofs.Tryz.prog ET 222 c222 = true := by kernel_rfl

def c224_2 : C := (.seq (.seq (.reg 0 none [m 7 (.t 6) 0, o 8 (.fld 1) [.t 2] 1, o 9 (.load false 1) [.t 8] 2, o 10 (.len 1) [.t 9] 3, o 11 (.bin .lss) [.t 7, .t 10] 4]) (.cond (.t 11) .skip (.exit 0))) (.seq (.blk 1 (.seq (.reg 0 (some ⟨true, [], 33⟩) [o 14 (.fld 1) [.t 2] 0, ⟨some 15, .load false 1, [.t 14], none, 1, 1⟩, m 16 (.t 6) 2, ⟨some 17, .ix 3, [.t 15, .t 16], none, 7, 3⟩, ⟨some 18, .fld 0, [.t 17], none, 15, 4⟩, ⟨some 19, .load true 2, [.t 18], none, 31, 5⟩, o 20 (.load true 2) [.t 3] 6, ⟨some 21, .beq true [0, 0], [.t 19, .t 20], none, 127, 7⟩]) (.cond (.t 21) (.reg 1 none [m 22 (.t 5) 0, o 23 (.fld 1) [.t 2] 1, o 24 (.load false 1) [.t 23] 2, m 25 (.t 6) 3, o 26 (.ix 3) [.t 24, .t 25] 4, o 27 (.load true 3) [.t 26] 5, o 28 (.bsl 3 z12 1 [0]) [.t 27] 6, o 29 (.app 0 3 24) [.t 22, .t 28] 7, m 5 (.t 29) 8]) .skip))) (.reg 0 none [m 12 (.t 6) 0, o 13 (.bin .add) [.t 12, .c (ci 1)] 1, m 6 (.t 13) 2])))
def c224_s1 : C := (.seq (.reg 0 none [m 30 (.t 5) 0, o 31 (.fld 1) [.t 2] 1, ⟨none, .store 1, [.t 31, .t 30], none, 0, 2⟩]) (.seq (.reg 0 none [o 32 (.load true 4) [.t 2] 0, ⟨none, .store 4, [.t 4, .t 32], none, 0, 1⟩]) .ret))
def c224_1 : C := (.seq (.reg 3 none [o 2 (.box 0) [.t 0] 0, o 3 (.box 1) [.t 1] 1, o 4 (.alloc 2 z10) [] 2]) (.seq (.reg 0 none [m 5 (.c .nilS) 0]) (.seq (.seq (.reg 0 none [m 6 (.c (ci 0)) 0]) (.blk 0 (.loop 17179869308 false c224_2))) c224_s1)))
def c224 : Fn := { fid := 224, np := 2, ntmps := 33, body := (.jn 8589934595 c224_1), res := [.cell 4 true 4] }
def L224 : Leaf := coldL c224
theorem kk224 : chkFn Go.Proofs.Tryz.prog ET 224 c224 = true := by kernel_rfl

def c225 : Fn := { fid := 225, np := 3, ntmps := 12, body := (.seq (.reg 1 none [o 3 (.box 0) [.t 0] 0, m 6 (.c cf) 1]) (.seq (.reg 0 (some ⟨true, [], 12⟩) [o 7 (.load true 4) [.t 3] 0, m 8 (.t 1) 1, m 9 (.t 2) 2, ⟨some 10, .call 218, [.t 9], none, 4, 3⟩, ⟨some 11, .call 281, [.t 7, .t 8, .t 10], none, 15, 4⟩, ⟨some 6, .mov, [.t 11], none, 31, 5⟩]) .ret)), res := [.tmp 6] }
def L225 : Leaf := coldL c225
theorem kk225 : chkFn Go.Proofs.Tryz.prog ET 225 c225 = true := by kernel_rfl

def c229_2 : C := (.seq (.seq (.reg 0 none [m 7 (.t 6) 0, o 8 (.fld 2) [.t 2] 1, o 9 (.load false 1) [.t 8] 2, o 10 (.len 1) [.t 9] 3, o 11 (.bin .lss) [.t 7, .t 10] 4]) (.cond (.t 11) .skip (.exit 0))) (.seq (.blk 1 (.seq (.reg 0 none [o 14 (.fld 2) [.t 2] 0, o 15 (.load false 1) [.t 14] 1, m 16 (.t 6) 2, o 17 (.ix 3) [.t 15, .t 16] 3, o 18 (.fld 2) [.t 17] 4, o 19 (.load false 1) [.t 18] 5, m 20 (.t 1) 6, o 21 (.bin .neq) [.t 19, .t 20] 7]) (.cond (.t 21) (.reg 1 none [m 22 (.t 5) 0, o 23 (.fld 2) [.t 2] 1, o 24 (.load false 1) [.t 23] 2, m 25 (.t 6) 3, o 26 (.ix 3) [.t 24, .t 25] 4, o 27 (.load true 3) [.t 26] 5, o 28 (.bsl 3 z12 1 [0]) [.t 27] 6, o 29 (.app 0 3 24) [.t 22, .t 28] 7, m 5 (.t 29) 8]) .skip))) (.reg 0 none [m 12 (.t 6) 0, o 13 (.bin .add) [.t 12, .c (ci 1)] 1, m 6 (.t 13) 2])))
def c229_s1 : C := (.seq (.reg 0 none [m 30 (.t 5) 0, o 31 (.fld 2) [.t 2] 1, ⟨none, .store 1, [.t 31, .t 30], none, 0, 2⟩]) (.seq (.reg 0 none [o 32 (.load true 4) [.t 2] 0, ⟨none, .store 4, [.t 4, .t 32], none, 0, 1⟩]) .ret))
def c229_1 : C := (.seq (.reg 2 none [o 2 (.box 0) [.t 0] 0, o 4 (.alloc 1 z10) [] 1]) (.seq (.reg 0 none [m 5 (.c .nilS) 0]) (.seq (.seq (.reg 0 none [m 6 (.c (ci 0)) 0]) (.blk 0 (.loop 17179869302 false c229_2))) c229_s1)))
def c229 : Fn := { fid := 229, np := 2, ntmps := 33, body := (.jn 8589934595 c229_1), res := [.cell 4 true 4] }
def L229 : Leaf := coldL c229
theorem kk229 : chkFn Go.Proofs.Tryz.prog ET 229 c229 = true := by kernel_rfl

def c235 : Fn := { fid := 235, np := 1, ntmps := 9, body := (.seq (.reg 1 none [o 1 (.box 0) [.t 0] 0, m 2 (.c (ci 0)) 1]) (.seq (.seq (.reg 0 none [o 3 (.fld 1) [.t 1] 0, o 4 (.load false 1) [.t 3] 1]) (.blk 0 (.seq (.reg 0 none [o 6 (.bin .eql) [.t 4, .c (ci 2)] 0, m 5 (.t 6) 1]) (.cond (.t 5) (.seq (.reg 0 none [m 2 (.c (ci 5)) 0]) .ret) (.seq (.reg 0 none [o 8 (.bin .eql) [.t 4, .c (ci 3)] 0, m 7 (.t 8) 1]) (.cond (.t 7) (.seq (.reg 0 none [m 2 (.c (ci 1)) 0]) .ret) .skip)))))) (.seq (.reg 0 none [m 2 (.c (ci 0)) 0]) .ret))), res := [.tmp 2] }
def L235 : Leaf := coldL c235
theorem kk235 : chkFn Go.Proofs.Tryz.prog ET 235 c235 = true := by kernel_rfl

def c236_2 : C := (.seq (.seq (.reg 0 none [m 6 (.t 5) 0, o 7 (.fld 3) [.t 1] 1, o 8 (.load false 1) [.t 7] 2, o 9 (.len 1) [.t 8] 3, o 10 (.bin .lss) [.t 6, .t 9] 4]) (.cond (.t 10) .skip (.exit 0))) (.seq (.blk 1 (.reg 0 none [m 13 (.t 4) 0, o 14 (.fld 3) [.t 1] 1, o 15 (.load false 1) [.t 14] 2, m 16 (.t 5) 3, o 17 (.ix 8) [.t 15, .t 16] 4, o 18 (.fld 4) [.t 17] 5, o 19 (.fld 1) [.t 18] 6, o 20 (.load false 1) [.t 19] 7, o 21 (.len 1) [.t 20] 8, o 22 (.bin .add) [.t 13, .t 21] 9, m 4 (.t 22) 10])) (.reg 0 none [m 11 (.t 5) 0, o 12 (.bin .add) [.t 11, .c (ci 1)] 1, m 5 (.t 12) 2])))
def c236_s1 : C := (.seq (.reg 0 (some ⟨true, [0, 1, 2, 3, 4, 5], 27⟩) [m 23 (.t 4) 0, o 24 (.fld 3) [.t 1] 1, ⟨some 25, .load false 1, [.t 24], none, 2, 2⟩, ⟨some 26, .len 1, [.t 25], none, 6, 3⟩, ⟨some 2, .mov, [.t 23], none, 1, 4⟩, ⟨some 3, .mov, [.t 26], none, 31, 5⟩]) .ret)
def c236_1 : C := (.seq (.reg 1 none [o 1 (.box 0) [.t 0] 0, m 2 (.c (ci 0)) 1, m 3 (.c (ci 0)) 2]) (.seq (.reg 0 none [m 4 (.c (ci 0)) 0]) (.seq (.seq (.reg 0 none [m 5 (.c (ci 0)) 0]) (.blk 0 (.loop 268435506 false c236_2))) c236_s1)))
def c236 : Fn := { fid := 236, np := 1, ntmps := 27, body := (.jn 134217729 c236_1), res := [.tmp 2, .tmp 3] }
def L236 : Leaf := coldL c236
theorem kk236 : chkFn Go.Proofs.Tryz.prog ET 236 c236 = true := by kernel_rfl

def c237_2 : C := (.seq (.seq (.reg 0 none [m 11 (.t 2) 0, o 12 (.bin .gtr) [.t 11, .c (ci 0)] 1, m 13 (.t 12) 2, ⟨some 14, .mov, [.t 8], some (13, true), 0, 3⟩, ⟨some 15, .mov, [.t 1], some (13, true), 0, 4⟩, ⟨some 16, .mov, [.t 2], some (13, true), 0, 5⟩, ⟨some 17, .bin .add, [.t 15, .t 16], some (13, true), 0, 6⟩, ⟨some 18, .bin .sub, [.t 17, .c (ci 1)], some (13, true), 0, 7⟩, ⟨some 19, .bin .quo, [.t 18, .c (ci 16)], some (13, true), 0, 8⟩, ⟨some 20, .bin .leq, [.t 14, .t 19], some (13, true), 0, 9⟩, o 21 .pick [.t 13, .t 20, .c cf] 10]) (.cond (.t 21) .skip (.exit 0))) (.seq (.blk 1 (.seq (.reg 0 none [o 24 (.load true 2) [.t 3] 0, m 25 (.t 8) 1, o 26 (.call 283) [.t 24, .t 25] 2, o 27 (.bin .lss) [.t 26, .c (ci 0)] 3]) (.cond (.t 27) (.reg 0 none [m 28 (.t 7) 0, o 29 (.bin .add) [.t 28, .c (ci 1)] 1, m 7 (.t 29) 2]) .skip))) (.reg 0 none [m 22 (.t 8) 0, o 23 (.bin .add) [.t 22, .c (ci 1)] 1, m 8 (.t 23) 2])))
def c237_s1 : C := (.seq (.reg 0 none [m 30 (.t 7) 0, m 6 (.t 30) 1]) .ret)
def c237_1 : C := (.seq (.reg 1 none [o 3 (.box 0) [.t 0] 0, m 6 (.c (ci 0)) 1]) (.seq (.reg 0 none [m 7 (.c (ci 0)) 0]) (.seq (.seq (.reg 0 none [m 9 (.t 1) 0, o 10 (.bin .quo) [.t 9, .c (ci 16)] 1, m 8 (.t 10) 2]) (.blk 0 (.loop 4294967694 false c237_2))) c237_s1)))
def c237 : Fn := { fid := 237, np := 3, ntmps := 31, body := (.jn 2147483655 c237_1), res := [.tmp 6] }
def L237 : Leaf := coldL c237
theorem kk237 : chkFn Go.Proofs.Tryz.prog ET 237 c237 = true := by kernel_rfl

def l238_0 : List O := [o 24 (.fld 1) [.t 3] 0, ⟨some 25, .load false 1, [.t 24], none, 1, 1⟩, o 26 (.load true 2) [.t 3] 2, m 27 (.t 8) 3, m 32 (.t 1) 8, m 33 (.t 7) 9, ⟨some 34, .bin .add, [.t 32, .t 33], none, 48, 10⟩, ⟨some 35, .bin .rem, [.t 34, .c (ci 16)], none, 112, 11⟩, m 36 (.t 2) 12, m 37 (.t 7) 13, ⟨some 38, .ix 1, [.t 36, .t 37], none, 768, 14⟩, ⟨some 39, .load false 1, [.t 38], none, 1792, 15⟩, ⟨some 28, .icall 10283, [.t 26, .t 27], none, 12, 4⟩, ⟨some 29, .ix 2, [.t 25, .t 28], none, 4111, 5⟩, ⟨some 30, .fld 1, [.t 29], none, 12303, 6⟩, ⟨some 31, .load false 1, [.t 30], none, 28687, 7⟩, ⟨some 40, .ix 1, [.t 31, .t 35], none, 65535, 16⟩, ⟨none, .store 1, [.t 40, .t 39], none, 131071, 17⟩]
def c238_2 : C := (.seq (.seq (.reg 0 none [m 11 (.t 7) 0, m 12 (.t 2) 1, o 13 (.len 1) [.t 12] 2, o 14 (.bin .lss) [.t 11, .t 13] 3]) (.cond (.t 14) .skip (.exit 0))) (.seq (.blk 1 (.seq (.reg 0 none [m 17 (.t 1) 0, m 18 (.t 7) 1, o 19 (.bin .add) [.t 17, .t 18] 2, o 20 (.bin .quo) [.t 19, .c (ci 16)] 3, m 8 (.t 20) 4]) (.seq (.reg 0 none [o 21 (.load true 2) [.t 3] 0, m 22 (.t 8) 1, o 23 (.icall 10284) [.t 21, .t 22] 2, ⟨none, .store 2, [.t 3, .t 23], none, 0, 3⟩]) (.reg 0 (some ⟨false, [], 53⟩) l238_0)))) (.reg 0 none [m 15 (.t 7) 0, o 16 (.bin .add) [.t 15, .c (ci 1)] 1, m 7 (.t 16) 2])))
def c238_3 : C := (.seq (.reg 0 none [o 52 (.load true 2) [.t 3] 0, ⟨none, .store 2, [.t 6, .t 52], none, 0, 1⟩]) .ret)
def c238_s1 : C := (.seq (.seq (.reg 0 none [m 41 (.t 2) 0, o 42 (.len 1) [.t 41] 1, o 43 (.bin .gtr) [.t 42, .c (ci 0)] 2]) (.cond (.t 43) (.reg 0 none [o 44 (.fld 0) [.t 3] 0, o 45 (.load false 1) [.t 44] 1, m 46 (.t 1) 2, m 47 (.t 2) 3, o 48 (.len 1) [.t 47] 4, o 49 (.bin .add) [.t 46, .t 48] 5, o 50 .max [.t 45, .t 49] 6, o 51 (.fld 0) [.t 3] 7, ⟨none, .store 1, [.t 51, .t 50], none, 0, 8⟩]) .skip)) (.jn 27021597764223048 c238_3))
def c238_1 : C := (.seq (.reg 2 none [o 3 (.box 0) [.t 0] 0, o 6 (.alloc 1 [(ci 0), .nilS]) [] 1]) (.seq (.reg 0 none [o 9 (.load true 2) [.t 3] 0, o 10 (.icall 10102) [.t 9] 1, ⟨none, .store 2, [.t 3, .t 10], none, 0, 2⟩]) (.seq (.seq (.reg 0 none [m 7 (.c (ci 0)) 0]) (.blk 0 (.loop 18014398509482190 false c238_2))) c238_s1)))
def c238 : Fn := { fid := 238, np := 3, ntmps := 53, body := (.jn 9007199254740999 c238_1), res := [.cell 6 true 2] }
def d238_1 (c : Cx) (t0 t1 t2 : V) (H : List Blk) : X := stepK c.pc c.ic c.n (.jn 9007199254740999 c238_1) (cn 0 53 [(0, t0), (1, t1), (2, t2)]) H (kTop c238.res)
def k238_1 (c : Cx) : KT := thenK (stepK c.pc c.ic c.n c238_s1) (kTop c238.res)
def k238_2 (c : Cx) : KT := blkK 0 (k238_1 c)
def d238_2 (c : Cx) (m n2 : Nat) (t1 t2 t3 t6 t7 : V) (H : List Blk) : X := jnK (loopsK (stepK c.pc c.ic c.n c238_2) 18014398509482190 false n2 m) (cn 0 53 [(1, t1), (2, t2), (3, t3), (6, t6), (7, t7)]) H (k238_2 c) 18014398509482190
def d238_3 (c : Cx) (t3 t6 : V) (H : List Blk) : X := stepK c.pc c.ic c.n (.jn 27021597764223048 c238_3) (cn 0 53 [(3, t3), (6, t6)]) H (kTop c238.res)
def b238_3 (c : Cx) (t3 t6 : V) (H : List Blk) : X := (aLoad true 2 t3).go H fun x1 H => (aStore 2 t6 x1).go H fun _ H => bnd (loadV true 2 t6 H) fun x2 => some (x2, H)
def j238_3 (c : Cx) : F2 := b238_3 c
theorem o238_3 (c : Cx) : d238_3 c = j238_3 c := by
  unfold j238_3
  funext t3 t6 H
  refine Eq.trans (stepK_jn c.pc c.ic c.n _ H _ 27021597764223048 c238_3) ?_
  kernel_rfl
def b238_2 (c : Cx) (r2 : F5) (j3 : F2) (n2 : Nat) (t1 t2 t3 t6 t7 : V) (H : List Blk) : X := (aLen 1 t2).go H fun x1 H => p (aBin .lss t7 x1) fun x2 => condK x2 ((fun (t1 t2 t3 t6 t7 x1 x2 : V) (H : L) (c : Cx) (r2 : F5) => p (aBin .add t1 t7) fun x3 => p (aBin .quo x3 (ci 16)) fun x4 => (aLoad true 2 t3).go H fun x5 H => icK c 10284 [x5, x4] H fun x6 H => (aStore 2 t3 x6).go H fun _ H => drawnK c.pc c.ic l238_0 0 (cn 0 53 [(1, t1), (2, t2), (3, t3), (6, t6), (7, t7), (8, x4), (11, t7), (12, t2), (13, x1), (14, x2), (17, t1), (18, t7), (19, x3), (20, x4), (21, x5), (22, x4), (23, x6)]) H fun ts6 H => p (aBin .add (getT ts6 7) (ci 1)) fun x8 => r2 (getT ts6 1) (getT ts6 2) (getT ts6 3) (getT ts6 6) x8 H) t1 t2 t3 t6 t7 x1 x2 H c r2) ((fun (t1 t2 t3 t6 : V) (H : L) (j3 : F2) => (aLen 1 t2).go H fun x9 H => p (aBin .gtr x9 (ci 0)) fun x10 => condK x10 ((fun (t1 t2 t3 t6 : V) (H : L) (j3 : F2) => p (aFld 0 t3) fun x11 => (aLoad false 1 x11).go H fun x12 H => (aLen 1 t2).go H fun x13 H => p (aBin .add t1 x13) fun x14 => p (aMax x12 [x14]) fun x15 => p (aFld 0 t3) fun x16 => (aStore 1 x16 x15).go H fun _ H => j3 t3 t6 H) t1 t2 t3 t6 H j3) (j3 t3 t6 H)) t1 t2 t3 t6 H j3)
def j238_2 (c : Cx) : Nat → Nat → F5 := recN (fun _ _ _ _ _ _ _ => none) fun ih n2 => b238_2 c (ih n2) (j238_3 c) n2
theorem o238_2 (c : Cx) : d238_2 c = j238_2 c := by
  unfold j238_2
  refine recN_ok (by kernel_rfl) fun m => funext fun n2 => ?_
  simp only [← o238_3]
  funext t1 t2 t3 t6 t7 H
  refine Eq.trans (jnK_eq 18014398509482190 _ _ H _) ?_
  kernel_rfl
def b238_1 (c : Cx) (j2 : Nat → Nat → F5) (t0 t1 t2 : V) (H : List Blk) : X := newK 2 H fun q H => (aBox (q + 0) t0).go H fun x1 H => (aAlloc (q + 1) [(ci 0), .nilS]).go H fun x2 H => (aLoad true 2 x1).go H fun x3 H => icK c 10102 [x3] H fun x4 H => (aStore 2 x1 x4).go H fun _ H => j2 c.n H.length t1 t2 x1 x2 (ci 0) H
def j238_1 (c : Cx) : F3 := b238_1 c (j238_2 c)
theorem o238_1 (c : Cx) : d238_1 c = j238_1 c := by
  unfold j238_1; rw [← o238_2]
  funext t0 t1 t2 H
  refine Eq.trans (stepK_jn c.pc c.ic c.n _ H _ 9007199254740999 c238_1) ?_
  kernel_rfl
def b238_0 (c : Cx) (j1 : F3) (t0 t1 t2 : V) (H : List Blk) : X := j1 t0 t1 t2 H
def s238 (c : Cx) (args : List V) (H : List Blk) : X := argsK 3 args (b238_0 c (j238_1 c) (getT args 0) (getT args 1) (getT args 2) H)
theorem e238 (pc ic n args H) : runK pc ic n c238 args H = s238 ⟨pc, ic, n⟩ args H := by
  unfold s238; rw [← o238_1]
  kernel_rfl
def L238 : Leaf := ⟨c238, fun pc ic n => s238 ⟨pc, ic, n⟩, e238⟩
theorem kk238 : chkFn Go.Proofs.Tryz.prog ET 238 c238 = true := by kernel_rfl

def c239_3 : C := (.seq (.seq (.reg 0 none [m 28 (.t 8) 0, o 29 (.bin .lss) [.t 28, .c (ci 16)] 1]) (.cond (.t 29) .skip (.exit 2))) (.seq (.blk 3 (.seq (.reg 0 none [o 32 (.fld 0) [.t 7] 0, o 33 (.load false 1) [.t 32] 1, o 34 (.bin .mul) [.t 33, .c (ci 16)] 2, m 35 (.t 8) 3, o 36 (.bin .add) [.t 34, .t 35] 4, m 37 (.t 1) 5, o 38 (.bin .geq) [.t 36, .t 37] 6]) (.cond (.t 38) (.reg 0 none [o 39 (.fld 1) [.t 7] 0, o 40 (.load false 1) [.t 39] 1, m 41 (.t 8) 2, o 42 (.ix 1) [.t 40, .t 41] 3, ⟨none, .store 1, [.t 42, .c (.d (.int .u8 0))], none, 0, 4⟩]) .skip))) (.reg 0 none [m 30 (.t 8) 0, o 31 (.bin .add) [.t 30, .c (ci 1)] 1, m 8 (.t 31) 2])))
def c239_s1 : C := (.reg 2 none [m 43 (.t 5) 0, o 44 (.load true 2) [.t 7] 1, o 45 (.bsa 0 2 [(ci 0), .nilS] 1 [0]) [.t 44] 2, o 46 (.appA 1 2 32) [.t 43, .t 45] 3, m 5 (.t 46) 4])
def c239_s2 : C := (.reg 0 none [m 16 (.t 6) 0, o 17 (.bin .add) [.t 16, .c (ci 1)] 1, m 6 (.t 17) 2])
def c239_2 : C := (.seq (.seq (.reg 0 none [m 11 (.t 6) 0, o 12 (.fld 1) [.t 2] 1, o 13 (.load false 1) [.t 12] 2, o 14 (.len 1) [.t 13] 3, o 15 (.bin .lss) [.t 11, .t 14] 4]) (.cond (.t 15) .skip (.exit 0))) (.seq (.blk 1 (.seq (.reg 1 none [o 18 (.fld 1) [.t 2] 0, o 19 (.load false 1) [.t 18] 1, m 20 (.t 6) 2, o 21 (.ix 2) [.t 19, .t 20] 3, o 22 (.load true 2) [.t 21] 4, o 7 (.alloc 0 [(ci 0), .nilS]) [] 5, ⟨none, .store 2, [.t 7, .t 22], none, 0, 6⟩]) (.seq (.seq (.reg 0 none [o 23 (.fld 0) [.t 7] 0, o 24 (.load false 1) [.t 23] 1, o 25 (.bin .mul) [.t 24, .c (ci 16)] 2, m 26 (.t 1) 3, o 27 (.bin .geq) [.t 25, .t 26] 4]) (.cond (.t 27) (.exit 1) .skip)) (.seq (.seq (.reg 0 none [m 8 (.c (ci 0)) 0]) (.blk 2 (.loop 3377699720528374 false c239_3))) c239_s1)))) c239_s2))
def c239_s3 : C := (.seq (.reg 0 none [m 47 (.t 1) 0, m 48 (.t 5) 1, o 49 (.build [(ci 0), .nilS] [(0, 1), (1, 1)]) [.t 47, .t 48] 2, ⟨none, .store 2, [.t 4, .t 49], none, 0, 3⟩]) .ret)
def c239_1 : C := (.seq (.reg 2 none [o 2 (.box 0) [.t 0] 0, o 4 (.alloc 1 [(ci 0), .nilS]) [] 1]) (.seq (.reg 0 none [o 9 (.load true 2) [.t 2] 0, o 10 (.icall 10102) [.t 9] 1, ⟨none, .store 2, [.t 2, .t 10], none, 0, 2⟩]) (.seq (.reg 0 none [m 5 (.c .nilS) 0]) (.seq (.seq (.reg 0 none [m 6 (.c (ci 0)) 0]) (.blk 0 (.loop 2251799813685366 false c239_2))) c239_s3))))
def c239 : Fn := { fid := 239, np := 2, ntmps := 50, body := (.jn 1125899906842627 c239_1), res := [.cell 4 true 2] }
def L239 : Leaf := coldL c239
theorem kk239 : chkFn Go.Proofs.Tryz.prog ET 239 c239 = true := by kernel_rfl

def c240 : Fn := { fid := 240, np := 1, ntmps := 15, body := (.seq (.reg 0 none [m 2 (.c .nilS) 0]) (.seq (.reg 0 none [m 3 (.t 0) 0, o 4 (.bin .shr) [.t 3, .c (.d (.int .u64 24))] 1, o 5 (.toInt .u8) [.t 4] 2, m 6 (.t 0) 3, o 7 (.bin .shr) [.t 6, .c (.d (.int .u64 16))] 4, o 8 (.toInt .u8) [.t 7] 5, m 9 (.t 0) 6, o 10 (.bin .shr) [.t 9, .c (.d (.int .u64 8))] 7, o 11 (.toInt .u8) [.t 10] 8, m 12 (.t 0) 9, o 13 (.toInt .u8) [.t 12] 10, o 14 (.bsl 1 [(.int .u8 0)] 4 [0, 1, 2, 3]) [.t 5, .t 8, .t 11, .t 13] 11, m 2 (.t 14) 12]) .ret)), res := [.tmp 2] }
def b240_0 (c : Cx) (t0 : V) (H : List Blk) : X := p (aBin .shr t0 (.d (.int .u64 24))) fun x1 => p (aToInt .u8 x1) fun x2 => p (aBin .shr t0 (.d (.int .u64 16))) fun x3 => p (aToInt .u8 x3) fun x4 => (fun (t0 x2 x4 : V) (H : L) => p (aBin .shr t0 (.d (.int .u64 8))) fun x5 => p (aToInt .u8 x5) fun x6 => p (aToInt .u8 t0) fun x7 => p (aBsl 1 [(.int .u8 0)] 4 [0, 1, 2, 3] [x2, x4, x6, x7]) fun x8 => some (x8, H)) t0 x2 x4 H
def s240 (c : Cx) (args : List V) (H : List Blk) : X := argsK 1 args (b240_0 c (getT args 0) H)
theorem e240 (pc ic n args H) : runK pc ic n c240 args H = s240 ⟨pc, ic, n⟩ args H := by
  unfold s240
  kernel_rfl
def L240 : Leaf := ⟨c240, fun pc ic n => s240 ⟨pc, ic, n⟩, e240⟩
theorem kk240 : chkFn Go.Proofs.Tryz.prog ET 240 c240 = true := by kernel_rfl

def l241_0 : List O := [m 21 (.t 3) 0, m 22 (.t 0) 1, m 23 (.t 4) 2, ⟨some 24, .ix 3, [.t 22, .t 23], none, 6, 3⟩, ⟨some 25, .fld 0, [.t 24], none, 14, 4⟩, ⟨some 26, .fld 1, [.t 25], none, 30, 5⟩, ⟨some 27, .load false 1, [.t 26], none, 62, 6⟩, ⟨some 28, .call 240, [.t 27], none, 126, 7⟩, ⟨some 29, .app 0 1 1, [.t 21, .t 28], none, 255, 8⟩, m 30 (.t 0) 9, m 31 (.t 4) 10, ⟨some 32, .ix 3, [.t 30, .t 31], none, 1536, 11⟩, ⟨some 33, .fld 2, [.t 32], none, 3584, 12⟩, ⟨some 34, .load false 1, [.t 33], none, 7680, 13⟩, ⟨some 35, .call 240, [.t 34], none, 16383, 14⟩, ⟨some 36, .app 1 1 1, [.t 29, .t 35], none, 32767, 15⟩, ⟨some 3, .mov, [.t 36], none, 65535, 16⟩]
def c241_2 : C := (.seq (.seq (.reg 0 none [m 5 (.t 4) 0, m 6 (.t 0) 1, o 7 (.len 1) [.t 6] 2, o 8 (.bin .lss) [.t 5, .t 7] 3]) (.cond (.t 8) .skip (.exit 0))) (.seq (.blk 1 (.seq (.reg 1 none [m 11 (.t 3) 0, m 12 (.t 0) 1, m 13 (.t 4) 2, o 14 (.ix 3) [.t 12, .t 13] 3, o 15 (.fld 0) [.t 14] 4, o 16 (.fld 0) [.t 15] 5, o 17 (.load false 1) [.t 16] 6, o 18 (.toInt .u8) [.t 17] 7, o 19 (.bsl 1 [(.int .u8 0)] 1 [0]) [.t 18] 8, o 20 (.app 0 1 1) [.t 11, .t 19] 9, m 3 (.t 20) 10]) (.reg 2 (some ⟨false, [], 38⟩) l241_0))) (.reg 0 none [m 9 (.t 4) 0, o 10 (.bin .add) [.t 9, .c (ci 1)] 1, m 4 (.t 10) 2])))
def c241_s1 : C := (.seq (.reg 0 none [m 37 (.t 3) 0, m 2 (.t 37) 1]) .ret)
def c241_1 : C := (.seq (.reg 0 none [m 2 (.c .nilS) 0]) (.seq (.reg 0 none [m 3 (.c .nilS) 0]) (.seq (.seq (.reg 0 none [m 4 (.c (ci 0)) 0]) (.blk 0 (.loop 549755813913 false c241_2))) c241_s1)))
def c241 : Fn := { fid := 241, np := 1, ntmps := 38, body := (.jn 274877906945 c241_1), res := [.tmp 2] }
def d241_1 (c : Cx) (t0 : V) (H : List Blk) : X := stepK c.pc c.ic c.n (.jn 274877906945 c241_1) (cn 0 38 [(0, t0)]) H (kTop c241.res)
def k241_1 (c : Cx) : KT := thenK (stepK c.pc c.ic c.n c241_s1) (kTop c241.res)
def k241_2 (c : Cx) : KT := blkK 0 (k241_1 c)
def d241_2 (c : Cx) (m n2 : Nat) (t0 t3 t4 : V) (H : List Blk) : X := jnK (loopsK (stepK c.pc c.ic c.n c241_2) 549755813913 false n2 m) (cn 0 38 [(0, t0), (3, t3), (4, t4)]) H (k241_2 c) 549755813913
def b241_2 (c : Cx) (r2 : F3) (n2 : Nat) (t0 t3 t4 : V) (H : List Blk) : X := (aLen 1 t0).go H fun x1 H => p (aBin .lss t4 x1) fun x2 => condK x2 ((fun (t0 t3 t4 x1 x2 : V) (H : L) (c : Cx) (r2 : F3) => newK 1 H fun q H => p (aIx 3 t0 t4) fun x3 => p (aFld 0 x3) fun x4 => p (aFld 0 x4) fun x5 => (fun (t0 t3 t4 x1 x2 x3 x4 x5 : V) (q : Nat) (H : L) (c : Cx) (r2 : F3) => (aLoad false 1 x5).go H fun x6 H => p (aToInt .u8 x6) fun x7 => p (aBsl 1 [(.int .u8 0)] 1 [0] [x7]) fun x8 => (aApp (q + 0) 1 1 t3 x8).go H fun x9 H => newK 2 H fun q H => drawnK c.pc c.ic l241_0 q (cn 0 38 [(0, t0), (3, x9), (4, t4), (5, t4), (6, t0), (7, x1), (8, x2), (11, t3), (12, t0), (13, t4), (14, x3), (15, x4), (16, x5), (17, x6), (18, x7), (19, x8), (20, x9)]) H fun ts9 H => p (aBin .add (getT ts9 4) (ci 1)) fun x11 => r2 (getT ts9 0) (getT ts9 3) x11 H) t0 t3 t4 x1 x2 x3 x4 x5 q H c r2) t0 t3 t4 x1 x2 H c r2) (some (t3, H))
def j241_2 (c : Cx) : Nat → Nat → F3 := recN (fun _ _ _ _ _ => none) fun ih n2 => b241_2 c (ih n2) n2
theorem o241_2 (c : Cx) : d241_2 c = j241_2 c := by
  unfold j241_2
  refine recN_ok (by kernel_rfl) fun m => funext fun n2 => ?_
  funext t0 t3 t4 H
  refine Eq.trans (jnK_eq 549755813913 _ _ H _) ?_
  kernel_rfl
def b241_1 (c : Cx) (j2 : Nat → Nat → F3) (t0 : V) (H : List Blk) : X := j2 c.n H.length t0 .nilS (ci 0) H
def j241_1 (c : Cx) : F1 := b241_1 c (j241_2 c)
theorem o241_1 (c : Cx) : d241_1 c = j241_1 c := by
  unfold j241_1; rw [← o241_2]
  funext t0 H
  refine Eq.trans (stepK_jn c.pc c.ic c.n _ H _ 274877906945 c241_1) ?_
  kernel_rfl
def b241_0 (c : Cx) (j1 : F1) (t0 : V) (H : List Blk) : X := j1 t0 H
def s241 (c : Cx) (args : List V) (H : List Blk) : X := argsK 1 args (b241_0 c (j241_1 c) (getT args 0) H)
theorem e241 (pc ic n args H) : runK pc ic n c241 args H = s241 ⟨pc, ic, n⟩ args H := by
  unfold s241; rw [← o241_1]
  kernel_rfl
def L241 : Leaf := ⟨c241, fun pc ic n => s241 ⟨pc, ic, n⟩, e241⟩
theorem kk241 : chkFn Go.Proofs.Tryz.prog ET 241 c241 = true := by kernel_rfl

def c242_2 : C := (.cond (.t 71) (.seq (.reg 0 none [m 4 (.c cf) 0]) .ret) .skip)
def c242_4 : C := (.seq (.reg 0 (some ⟨true, [], 122⟩) [m 90 (.t 7) 0, ⟨some 91, .un .not, [.t 90], none, 1, 1⟩, ⟨some 92, .mov, [.t 91], none, 3, 2⟩, ⟨some 93, .fld 7, [.t 3], some (92, false), 7, 3⟩, ⟨some 94, .load false 1, [.t 93], some (92, false), 15, 4⟩, ⟨some 95, .mov, [.t 5], some (92, false), 7, 5⟩, ⟨some 96, .ix 2, [.t 94, .t 95], some (92, false), 63, 6⟩, ⟨some 97, .fld 0, [.t 96], some (92, false), 127, 7⟩, ⟨some 98, .load false 1, [.t 97], some (92, false), 255, 8⟩, ⟨some 99, .call 286, [.t 98], some (92, false), 511, 9⟩, ⟨some 100, .un .not, [.t 99], some (92, false), 1023, 10⟩, ⟨some 101, .pick, [.t 92, .c ct, .t 100], none, 2047, 11⟩, ⟨some 102, .mov, [.t 101], none, 4095, 12⟩, ⟨some 103, .mov, [.t 5], some (102, false), 8191, 13⟩, ⟨some 104, .bin .gtr, [.t 103, .c (ci 0)], some (102, false), 16383, 14⟩, ⟨some 105, .mov, [.t 104], some (102, false), 32767, 15⟩, ⟨some 106, .fld 7, [.t 3], some (105, true), 65535, 16⟩, ⟨some 107, .load false 1, [.t 106], some (105, true), 131071, 17⟩, ⟨some 108, .mov, [.t 5], some (105, true), 65535, 18⟩, ⟨some 109, .ix 2, [.t 107, .t 108], some (105, true), 524287, 19⟩, ⟨some 110, .fld 0, [.t 109], some (105, true), 1048575, 20⟩, ⟨some 111, .load false 1, [.t 110], some (105, true), 2097151, 21⟩, ⟨some 112, .fld 7, [.t 3], some (105, true), 65535, 22⟩, ⟨some 113, .load false 1, [.t 112], some (105, true), 4259839, 23⟩, ⟨some 114, .mov, [.t 5], some (105, true), 65535, 24⟩, ⟨some 115, .bin .sub, [.t 114, .c (ci 1)], some (105, true), 16842751, 25⟩, ⟨some 116, .ix 2, [.t 113, .t 115], some (105, true), 62980095, 26⟩, ⟨some 117, .fld 0, [.t 116], some (105, true), 130088959, 27⟩, ⟨some 118, .load false 1, [.t 117], some (105, true), 264306687, 28⟩, ⟨some 119, .bin .leq, [.t 111, .t 118], some (105, true), 536870911, 29⟩, ⟨some 120, .pick, [.t 105, .t 119, .c cf], some (102, false), 1073741823, 30⟩, ⟨some 121, .pick, [.t 102, .c ct, .t 120], none, 2147483647, 31⟩]) (.cond (.t 121) (.seq (.reg 0 none [m 4 (.c cf) 0]) .ret) .skip))
def c242_s1 : C := (.reg 0 none [m 77 (.t 5) 0, o 78 (.bin .add) [.t 77, .c (ci 1)] 1, m 5 (.t 78) 2])
def l242_0 : List O := [o 80 (.load true 4) [.t 2] 0, o 81 (.fld 7) [.t 3] 1, ⟨some 82, .load false 1, [.t 81], none, 2, 2⟩, m 83 (.t 5) 3, ⟨some 84, .ix 2, [.t 82, .t 83], none, 14, 4⟩, ⟨some 85, .fld 1, [.t 84], none, 30, 5⟩, ⟨some 86, .load false 1, [.t 85], none, 62, 6⟩, ⟨some 87, .call 16, [.t 80, .t 86], none, 127, 7⟩, ⟨some 79, .mov, [.t 87], none, 255, 8⟩, ⟨some 88, .ext 0, [.t 79], none, 511, 9⟩, ⟨some 89, .ext 1, [.t 79], none, 511, 10⟩, o 6 (.alloc 0 z1) [] 11, ⟨none, .store 8, [.t 6, .t 88], none, 3071, 12⟩, ⟨some 7, .mov, [.t 89], none, 8191, 13⟩]
def c242_3 : C := (.seq (.seq (.reg 0 none [m 72 (.t 5) 0, o 73 (.fld 7) [.t 3] 1, o 74 (.load false 1) [.t 73] 2, o 75 (.len 1) [.t 74] 3, o 76 (.bin .lss) [.t 72, .t 75] 4]) (.cond (.t 76) .skip (.exit 0))) (.seq (.blk 1 (.seq (.reg 1 (some ⟨false, [0, 1, 2, 3, 4, 5, 6, 7, 8, 9, 11, 12, 10, 13], 122⟩) l242_0) (.jn 21267647932558653966460912964485513388 c242_4))) c242_s1))
def c242_s2 : C := (.seq (.reg 0 none [m 4 (.c ct) 0]) .ret)
def c242_s3 : C := (.seq (.seq (.reg 0 none [m 5 (.c (ci 0)) 0]) (.blk 0 (.loop 15950735949418990474845684723364134956 true c242_3))) c242_s2)
def c242_1 : C := (.seq (.reg 2 none [o 2 (.box 0) [.t 0] 0, o 3 (.box 1) [.t 1] 1, m 4 (.c cf) 2]) (.seq (.seq (.reg 0 none [o 8 (.fld 1) [.t 3] 0, o 9 (.load false 1) [.t 8] 1, o 10 (.bin .lss) [.t 9, .c (ci 1)] 2, m 11 (.t 10) 3, ⟨some 12, .fld 1, [.t 3], some (11, false), 0, 4⟩, ⟨some 13, .load false 1, [.t 12], some (11, false), 0, 5⟩, ⟨some 14, .bin .gtr, [.t 13, .c (ci 3)], some (11, false), 0, 6⟩, o 15 .pick [.t 11, .c ct, .t 14] 7, m 16 (.t 15) 8, ⟨some 17, .fld 2, [.t 3], some (16, false), 0, 9⟩, ⟨some 18, .load false 1, [.t 17], some (16, false), 0, 10⟩, ⟨some 19, .bin .lss, [.t 18, .c (ci 0)], some (16, false), 0, 11⟩, o 20 .pick [.t 16, .c ct, .t 19] 12, m 21 (.t 20) 13, ⟨some 22, .fld 2, [.t 3], some (21, false), 0, 14⟩, ⟨some 23, .load false 1, [.t 22], some (21, false), 0, 15⟩, ⟨some 24, .bin .gtr, [.t 23, .c (ci 511)], some (21, false), 0, 16⟩, o 25 .pick [.t 21, .c ct, .t 24] 17, m 26 (.t 25) 18, ⟨some 27, .fld 4, [.t 3], some (26, false), 0, 19⟩, ⟨some 28, .load true 2, [.t 27], some (26, false), 0, 20⟩, ⟨some 29, .call 285, [.t 28], some (26, false), 0, 21⟩, ⟨some 30, .un .not, [.t 29], some (26, false), 0, 22⟩, o 31 .pick [.t 26, .c ct, .t 30] 23]) (.cond (.t 31) (.seq (.reg 0 none [m 4 (.c cf) 0]) .ret) .skip)) (.seq (.seq (.reg 0 none [o 32 (.fld 1) [.t 3] 0, o 33 (.load false 1) [.t 32] 1, o 34 (.bin .neq) [.t 33, .c (ci 1)] 2, m 35 (.t 34) 3, ⟨some 36, .fld 4, [.t 3], some (35, true), 0, 4⟩, ⟨some 37, .fld 0, [.t 36], some (35, true), 0, 5⟩, ⟨some 38, .load false 1, [.t 37], some (35, true), 0, 6⟩, ⟨some 39, .bin .gtr, [.t 38, .c (ci 0)], some (35, true), 0, 7⟩, ⟨some 40, .mov, [.t 39], some (35, true), 0, 8⟩, ⟨some 41, .fld 4, [.t 3], some (40, false), 0, 9⟩, ⟨some 42, .fld 1, [.t 41], some (40, false), 0, 10⟩, ⟨some 43, .load false 1, [.t 42], some (40, false), 0, 11⟩, ⟨some 44, .len 1, [.t 43], some (40, false), 0, 12⟩, ⟨some 45, .bin .gtr, [.t 44, .c (ci 0)], some (40, false), 0, 13⟩, ⟨some 46, .pick, [.t 40, .c ct, .t 45], some (35, true), 0, 14⟩, o 47 .pick [.t 35, .t 46, .c cf] 15, m 48 (.t 47) 16, ⟨some 49, .fld 1, [.t 3], some (48, false), 0, 17⟩, ⟨some 50, .load false 1, [.t 49], some (48, false), 0, 18⟩, ⟨some 51, .bin .neq, [.t 50, .c (ci 2)], some (48, false), 0, 19⟩, ⟨some 52, .mov, [.t 51], some (48, false), 0, 20⟩, ⟨some 53, .fld 7, [.t 3], some (52, true), 0, 21⟩, ⟨some 54, .load false 1, [.t 53], some (52, true), 0, 22⟩, ⟨some 55, .len 1, [.t 54], some (52, true), 0, 23⟩, ⟨some 56, .bin .gtr, [.t 55, .c (ci 0)], some (52, true), 0, 24⟩, ⟨some 57, .pick, [.t 52, .t 56, .c cf], some (48, false), 0, 25⟩, o 58 .pick [.t 48, .c ct, .t 57] 26]) (.cond (.t 58) (.seq (.reg 0 none [m 4 (.c cf) 0]) .ret) .skip)) (.seq (.seq (.reg 0 none [o 59 (.fld 1) [.t 3] 0, o 60 (.load false 1) [.t 59] 1, o 61 (.bin .eql) [.t 60, .c (ci 3)] 2, o 62 (.fld 6) [.t 3] 3, o 63 (.load false 1) [.t 62] 4, o 64 (.bin .neq) [.t 63, .c (.d (.str []))] 5, o 65 (.eqn 3 true) [.t 61, .t 64] 6, m 66 (.t 65) 7, ⟨some 67, .fld 6, [.t 3], some (66, false), 0, 8⟩, ⟨some 68, .load false 1, [.t 67], some (66, false), 0, 9⟩, ⟨some 69, .len 0, [.t 68], some (66, false), 0, 10⟩, ⟨some 70, .bin .gtr, [.t 69, .c (ci 120)], some (66, false), 0, 11⟩, o 71 .pick [.t 66, .c ct, .t 70] 12]) (.jn 10633823966279329344413697917065363468 c242_2)) c242_s3))))
def c242 : Fn := { fid := 242, np := 2, ntmps := 122, body := (.jn 5316911983139663491615228241121378307 c242_1), res := [.tmp 4] }
def L242 : Leaf := coldL c242
theorem kk242 : chkFn Go.Proofs.Tryz.prog ET 242 c242 = true := by kernel_rfl

def c243_3 : C := (.seq (.seq (.reg 0 none [m 15 (.t 7) 0, o 16 (.fld 3) [.t 2] 1, o 17 (.load false 1) [.t 16] 2, m 18 (.t 6) 3, o 19 (.ix 8) [.t 17, .t 18] 4, o 20 (.fld 7) [.t 19] 5, o 21 (.load false 1) [.t 20] 6, o 22 (.len 1) [.t 21] 7, o 23 (.bin .lss) [.t 15, .t 22] 8]) (.cond (.t 23) .skip (.exit 2))) (.seq (.blk 3 (.seq (.reg 0 none [o 26 (.fld 3) [.t 2] 0, o 27 (.load false 1) [.t 26] 1, m 28 (.t 6) 2, o 29 (.ix 8) [.t 27, .t 28] 3, o 30 (.fld 7) [.t 29] 4, o 31 (.load false 1) [.t 30] 5, m 32 (.t 7) 6, o 33 (.ix 2) [.t 31, .t 32] 7, o 34 (.fld 1) [.t 33] 8, o 35 (.load false 1) [.t 34] 9, m 36 (.t 1) 10, o 37 (.bin .eql) [.t 35, .t 36] 11]) (.cond (.t 37) (.reg 0 none [m 38 (.t 5) 0, o 39 (.bin .add) [.t 38, .c (ci 1)] 1, m 5 (.t 39) 2]) .skip))) (.reg 0 none [m 24 (.t 7) 0, o 25 (.bin .add) [.t 24, .c (ci 1)] 1, m 7 (.t 25) 2])))
def c243_s1 : C := (.reg 0 none [m 13 (.t 6) 0, o 14 (.bin .add) [.t 13, .c (ci 1)] 1, m 6 (.t 14) 2])
def c243_2 : C := (.seq (.seq (.reg 0 none [m 8 (.t 6) 0, o 9 (.fld 3) [.t 2] 1, o 10 (.load false 1) [.t 9] 2, o 11 (.len 1) [.t 10] 3, o 12 (.bin .lss) [.t 8, .t 11] 4]) (.cond (.t 12) .skip (.exit 0))) (.seq (.blk 1 (.seq (.reg 0 none [m 7 (.c (ci 0)) 0]) (.blk 2 (.loop 6597069766886 false c243_3)))) c243_s1))
def c243_s2 : C := (.seq (.reg 0 none [m 40 (.t 5) 0, m 4 (.t 40) 1]) .ret)
def c243_1 : C := (.seq (.reg 1 none [o 2 (.box 0) [.t 0] 0, m 4 (.c (ci 0)) 1]) (.seq (.reg 0 none [m 5 (.c (ci 0)) 0]) (.seq (.seq (.reg 0 none [m 6 (.c (ci 0)) 0]) (.blk 0 (.loop 4398046511206 false c243_2))) c243_s2)))
def c243 : Fn := { fid := 243, np := 2, ntmps := 41, body := (.jn 2199023255555 c243_1), res := [.tmp 4] }
def d243_1 (c : Cx) (t0 t1 : V) (H : List Blk) : X := stepK c.pc c.ic c.n (.jn 2199023255555 c243_1) (cn 0 41 [(0, t0), (1, t1)]) H (kTop c243.res)
def k243_1 (c : Cx) : KT := thenK (stepK c.pc c.ic c.n c243_s2) (kTop c243.res)
def k243_2 (c : Cx) : KT := blkK 0 (k243_1 c)
def d243_2 (c : Cx) (m n2 : Nat) (t1 t2 t5 t6 : V) (H : List Blk) : X := jnK (loopsK (stepK c.pc c.ic c.n c243_2) 4398046511206 false n2 m) (cn 0 41 [(1, t1), (2, t2), (5, t5), (6, t6)]) H (k243_2 c) 4398046511206
def k243_3 (c : Cx) (m2 n2 : Nat) : KT := thenK (fun ts H k => jnK (loopsK (stepK c.pc c.ic c.n c243_2) 4398046511206 false n2 m2) (maskT 4398046511206 0 ts) H k 4398046511206) (k243_2 c)
def k243_4 (c : Cx) (m2 n2 : Nat) : KT := thenK (stepK c.pc c.ic c.n c243_s1) (k243_3 c m2 n2)
def k243_5 (c : Cx) (m2 n2 : Nat) : KT := blkK 1 (k243_4 c m2 n2)
def k243_6 (c : Cx) (m2 n2 : Nat) : KT := blkK 2 (k243_5 c m2 n2)
def d243_3 (c : Cx) (m2 n2 : Nat) (m n3 : Nat) (t1 t2 t5 t6 t7 : V) (H : List Blk) : X := jnK (loopsK (stepK c.pc c.ic c.n c243_3) 6597069766886 false n3 m) (cn 0 41 [(1, t1), (2, t2), (5, t5), (6, t6), (7, t7)]) H (k243_6 c m2 n2) 6597069766886
def b243_3 (c : Cx) (r2 : F4) (r3 : F5) (n3 : Nat) (t1 t2 t5 t6 t7 : V) (H : List Blk) : X := p (aFld 3 t2) fun x1 => (aLoad false 1 x1).go H fun x2 H => p (aIx 8 x2 t6) fun x3 => (fun (t1 t2 t5 t6 t7 x3 : V) (H : L) (r2 : F4) (r3 : F5) => p (aFld 7 x3) fun x4 => (aLoad false 1 x4).go H fun x5 H => (aLen 1 x5).go H fun x6 H => p (aBin .lss t7 x6) fun x7 => condK x7 ((fun (t1 t2 t5 t6 t7 : V) (H : L) (r3 : F5) => p (aFld 3 t2) fun x8 => (fun (t1 t2 t5 t6 t7 x8 : V) (H : L) (r3 : F5) => (aLoad false 1 x8).go H fun x9 H => p (aIx 8 x9 t6) fun x10 => p (aFld 7 x10) fun x11 => (aLoad false 1 x11).go H fun x12 H => (fun (t1 t2 t5 t6 t7 x12 : V) (H : L) (r3 : F5) => p (aIx 2 x12 t7) fun x13 => p (aFld 1 x13) fun x14 => (aLoad false 1 x14).go H fun x15 H => p (aBin .eql x15 t1) fun x16 => condK x16 (p (aBin .add t5 (ci 1)) fun x17 => p (aBin .add t7 (ci 1)) fun x18 => r3 t1 t2 x17 t6 x18 H) (p (aBin .add t7 (ci 1)) fun x19 => r3 t1 t2 t5 t6 x19 H)) t1 t2 t5 t6 t7 x12 H r3) t1 t2 t5 t6 t7 x8 H r3) t1 t2 t5 t6 t7 H r3) (p (aBin .add t6 (ci 1)) fun x20 => r2 t1 t2 t5 x20 H)) t1 t2 t5 t6 t7 x3 H r2 r3
def j243_3 (c : Cx) (r2 : F4) : Nat → Nat → F5 := recN (fun _ _ _ _ _ _ _ => none) fun ih n3 => b243_3 c r2 (ih n3) n3
theorem o243_3 (c : Cx) (m2 n2 : Nat) : d243_3 c m2 n2 = j243_3 c (d243_2 c m2 n2) := by
  unfold j243_3
  refine recN_ok (by kernel_rfl) fun m => funext fun n3 => ?_
  funext t1 t2 t5 t6 t7 H
  refine Eq.trans (jnK_eq 6597069766886 _ _ H _) ?_
  kernel_rfl
def b243_2 (c : Cx) (j3 : Nat → Nat → F5) (n2 : Nat) (t1 t2 t5 t6 : V) (H : List Blk) : X := p (aFld 3 t2) fun x1 => (aLoad false 1 x1).go H fun x2 H => (aLen 1 x2).go H fun x3 H => p (aBin .lss t6 x3) fun x4 => condK x4 (j3 c.n H.length t1 t2 t5 t6 (ci 0) H) (some (t5, H))
def j243_2 (c : Cx) : Nat → Nat → F4 := recN (fun _ _ _ _ _ _ => none) fun ih n2 => b243_2 c (j243_3 c (ih n2)) n2
theorem o243_2 (c : Cx) : d243_2 c = j243_2 c := by
  unfold j243_2
  refine recN_ok (by kernel_rfl) fun m => funext fun n2 => ?_
  simp only [← o243_3]
  funext t1 t2 t5 t6 H
  refine Eq.trans (jnK_eq 4398046511206 _ _ H _) ?_
  kernel_rfl
def b243_1 (c : Cx) (j2 : Nat → Nat → F4) (t0 t1 : V) (H : List Blk) : X := newK 1 H fun q H => (aBox (q + 0) t0).go H fun x1 H => j2 c.n H.length t1 x1 (ci 0) (ci 0) H
def j243_1 (c : Cx) : F2 := b243_1 c (j243_2 c)
theorem o243_1 (c : Cx) : d243_1 c = j243_1 c := by
  unfold j243_1; rw [← o243_2]
  funext t0 t1 H
  refine Eq.trans (stepK_jn c.pc c.ic c.n _ H _ 2199023255555 c243_1) ?_
  kernel_rfl
def b243_0 (c : Cx) (j1 : F2) (t0 t1 : V) (H : List Blk) : X := j1 t0 t1 H
def s243 (c : Cx) (args : List V) (H : List Blk) : X := argsK 2 args (b243_0 c (j243_1 c) (getT args 0) (getT args 1) H)
theorem e243 (pc ic n args H) : runK pc ic n c243 args H = s243 ⟨pc, ic, n⟩ args H := by
  unfold s243; rw [← o243_1]
  kernel_rfl
def L243 : Leaf := ⟨c243, fun pc ic n => s243 ⟨pc, ic, n⟩, e243⟩
theorem kk243 : chkFn Go.Proofs.Tryz.prog ET 243 c243 = true := by kernel_rfl

def c244_3 : C := (.seq (.reg 0 none [m 60 (.t 14) 0, o 61 (.un .not) [.t 60] 1]) (.cond (.t 61) (.seq (.reg 0 none [m 62 (.t 3) 0, m 8 (.t 62) 1, m 9 (.c cf) 2]) .ret) .skip))
def c244_s1 : C := (.reg 0 none [m 35 (.t 12) 0, o 36 (.bin .add) [.t 35, .c (ci 1)] 1, m 12 (.t 36) 2])
def l244_0 : List O := [o 47 (.load true 4) [.t 4] 0, m 48 (.t 13) 1, m 49 (.t 2) 2, ⟨some 50, .bin .sub, [.t 49, .c (ci 1)], none, 4, 3⟩, o 51 (.bsl 1 [(.int .i64 0)] 0 []) [] 4, m 52 (.t 3) 5, ⟨some 53, .app 0 1 8, [.t 51, .t 52], none, 48, 6⟩, m 54 (.t 13) 7, ⟨some 55, .bsl 1 [(.int .i64 0)] 1 [0], [.t 54], none, 128, 8⟩, ⟨some 56, .app 1 1 8, [.t 53, .t 55], none, 496, 9⟩, ⟨some 57, .call 244, [.t 47, .t 48, .t 50, .t 56], none, 1023, 10⟩, ⟨some 46, .mov, [.t 57], none, 2047, 11⟩, ⟨some 58, .ext 0, [.t 46], none, 4095, 12⟩, ⟨some 59, .ext 1, [.t 46], none, 4095, 13⟩, ⟨some 3, .mov, [.t 58], none, 8191, 14⟩, ⟨some 14, .mov, [.t 59], none, 32767, 15⟩]
def c244_2 : C := (.seq (.seq (.reg 0 none [m 30 (.t 12) 0, o 31 (.fld 7) [.t 10] 1, o 32 (.load false 1) [.t 31] 2, o 33 (.len 1) [.t 32] 3, o 34 (.bin .lss) [.t 30, .t 33] 4]) (.cond (.t 34) .skip (.exit 0))) (.seq (.blk 1 (.seq (.reg 0 none [o 37 (.fld 7) [.t 10] 0, o 38 (.load false 1) [.t 37] 1, m 39 (.t 12) 2, o 40 (.ix 2) [.t 38, .t 39] 3, o 41 (.fld 1) [.t 40] 4, o 42 (.load false 1) [.t 41] 5, m 13 (.t 42) 6]) (.seq (.seq (.reg 0 none [m 43 (.t 3) 0, m 44 (.t 13) 1, o 45 (.call 287) [.t 43, .t 44] 2]) (.cond (.t 45) (.exit 1) .skip)) (.seq (.reg 0 none [m 14 (.c ct) 0]) (.seq (.reg 2 (some ⟨false, [0, 1, 2, 3, 4, 5, 6, 7, 8, 9, 10, 11, 12, 14, 13, 15], 64⟩) l244_0) (.jn 55340232221128676380 c244_3)))))) c244_s1))
def c244_s2 : C := (.seq (.reg 0 none [m 63 (.t 3) 0, m 8 (.t 63) 1, m 9 (.c ct) 2]) .ret)
def c244_1 : C := (.seq (.reg 1 none [o 4 (.box 0) [.t 0] 0, m 8 (.c .nilS) 1, m 9 (.c cf) 2]) (.seq (.reg 1 none [o 16 (.load true 4) [.t 4] 0, m 17 (.t 1) 1, o 18 (.call 16) [.t 16, .t 17] 2, m 15 (.t 18) 3, o 19 (.ext 0) [.t 15] 4, o 20 (.ext 1) [.t 15] 5, o 10 (.alloc 0 z1) [] 6, ⟨none, .store 8, [.t 10, .t 19], none, 0, 7⟩, m 11 (.t 20) 8]) (.seq (.seq (.reg 0 none [m 21 (.t 2) 0, o 22 (.bin .eql) [.t 21, .c (ci 0)] 1, m 23 (.t 22) 2, ⟨some 24, .fld 7, [.t 10], some (23, true), 0, 3⟩, ⟨some 25, .load false 1, [.t 24], some (23, true), 0, 4⟩, ⟨some 26, .len 1, [.t 25], some (23, true), 0, 5⟩, ⟨some 27, .bin .gtr, [.t 26, .c (ci 0)], some (23, true), 0, 6⟩, o 28 .pick [.t 23, .t 27, .c cf] 7]) (.cond (.t 28) (.seq (.reg 0 none [m 29 (.t 3) 0, m 8 (.t 29) 1, m 9 (.c cf) 2]) .ret) .skip)) (.seq (.seq (.reg 0 none [m 12 (.c (ci 0)) 0]) (.blk 0 (.loop 36893488147419108380 true c244_2))) c244_s2))))
def c244 : Fn := { fid := 244, np := 4, ntmps := 64, body := (.jn 18446744073709551631 c244_1), res := [.tmp 8, .tmp 9] }
def d244_1 (c : Cx) (t0 t1 t2 t3 : V) (H : List Blk) : X := stepK c.pc c.ic c.n (.jn 18446744073709551631 c244_1) (cn 0 64 [(0, t0), (1, t1), (2, t2), (3, t3)]) H (kTop c244.res)
def k244_1 (c : Cx) : KT := thenK (stepK c.pc c.ic c.n c244_s2) (kTop c244.res)
def k244_2 (c : Cx) : KT := blkK 0 (k244_1 c)
def d244_2 (c : Cx) (m n2 : Nat) (t2 t3 t4 t10 t12 : V) (H : List Blk) : X := jnK (loopsK (stepK c.pc c.ic c.n c244_2) 36893488147419108380 true n2 m) (cn 0 64 [(2, t2), (3, t3), (4, t4), (10, t10), (12, t12)]) H (k244_2 c) 36893488147419108380
def k244_3 (c : Cx) (m2 n2 : Nat) : KT := thenK (fun ts H k => jnK (loopsK (stepK c.pc c.ic c.n c244_2) 36893488147419108380 true n2 m2) (maskT 36893488147419108380 0 ts) H k 36893488147419108380) (k244_2 c)
def k244_4 (c : Cx) (m2 n2 : Nat) : KT := thenK (stepK c.pc c.ic c.n c244_s1) (k244_3 c m2 n2)
def k244_5 (c : Cx) (m2 n2 : Nat) : KT := blkK 1 (k244_4 c m2 n2)
def d244_3 (c : Cx) (m2 n2 : Nat) (t2 t3 t4 t10 t12 t14 : V) (H : List Blk) : X := stepK c.pc c.ic c.n (.jn 55340232221128676380 c244_3) (cn 0 64 [(2, t2), (3, t3), (4, t4), (10, t10), (12, t12), (14, t14)]) H (k244_5 c m2 n2)
def b244_3 (c : Cx) (r2 : F5) (t2 t3 t4 t10 t12 t14 : V) (H : List Blk) : X := p (aUn .not t14) fun x1 => condK x1 (some (.tup [t3, cf], H)) (p (aBin .add t12 (ci 1)) fun x2 => r2 t2 t3 t4 t10 x2 H)
def j244_3 (c : Cx) (r2 : F5) : F6 := b244_3 c r2
theorem o244_3 (c : Cx) (m2 n2 : Nat) : d244_3 c m2 n2 = j244_3 c (d244_2 c m2 n2) := by
  unfold j244_3
  funext t2 t3 t4 t10 t12 t14 H
  refine Eq.trans (stepK_jn c.pc c.ic c.n _ H _ 55340232221128676380 c244_3) ?_
  kernel_rfl
def b244_2 (c : Cx) (r2 : F5) (j3 : F6) (n2 : Nat) (t2 t3 t4 t10 t12 : V) (H : List Blk) : X := bnd (trimF true n2 [t2, t3, t4, t10, t12] H) fun H => p (aFld 7 t10) fun x1 => (aLoad false 1 x1).go H fun x2 H => (aLen 1 x2).go H fun x3 H => p (aBin .lss t12 x3) fun x4 => condK x4 ((fun (t2 t3 t4 t10 t12 x1 x2 x3 x4 : V) (H : L) (c : Cx) (j3 : F6) (r2 : F5) => p (aFld 7 t10) fun x5 => (fun (t2 t3 t4 t10 t12 x1 x2 x3 x4 x5 : V) (H : L) (c : Cx) (j3 : F6) (r2 : F5) => (aLoad false 1 x5).go H fun x6 H => p (aIx 2 x6 t12) fun x7 => p (aFld 1 x7) fun x8 => (aLoad false 1 x8).go H fun x9 H => p (aCall c.pc 287 [t3, x9]) fun x10 => condK x10 (p (aBin .add t12 (ci 1)) fun x11 => r2 t2 t3 t4 t10 x11 H) ((fun (t2 t3 t4 t10 t12 x1 x2 x3 x4 x5 x6 x7 x8 x9 x10 : V) (H : L) (c : Cx) (j3 : F6) => newK 2 H fun q H => drawnK c.pc c.ic l244_0 q (cn 0 64 [(2, t2), (3, t3), (4, t4), (10, t10), (12, t12), (13, x9), (14, ct), (30, t12), (31, x1), (32, x2), (33, x3), (34, x4), (37, x5), (38, x6), (39, t12), (40, x7), (41, x8), (42, x9), (43, t3), (44, x9), (45, x10)]) H fun ts11 H => j3 (getT ts11 2) (getT ts11 3) (getT ts11 4) (getT ts11 10) (getT ts11 12) (getT ts11 14) H) t2 t3 t4 t10 t12 x1 x2 x3 x4 x5 x6 x7 x8 x9 x10 H c j3)) t2 t3 t4 t10 t12 x1 x2 x3 x4 x5 H c j3 r2) t2 t3 t4 t10 t12 x1 x2 x3 x4 H c j3 r2) (some (.tup [t3, ct], H))
def j244_2 (c : Cx) : Nat → Nat → F5 := recN (fun _ _ _ _ _ _ _ => none) fun ih n2 => b244_2 c (ih n2) (j244_3 c (ih n2)) n2
theorem o244_2 (c : Cx) : d244_2 c = j244_2 c := by
  unfold j244_2
  refine recN_ok (by kernel_rfl) fun m => funext fun n2 => ?_
  simp only [← o244_3]
  funext t2 t3 t4 t10 t12 H
  refine Eq.trans (jnK_eq 36893488147419108380 _ _ H _) ?_
  kernel_rfl
def b244_1 (c : Cx) (j2 : Nat → Nat → F5) (t0 t1 t2 t3 : V) (H : List Blk) : X := newK 1 H fun q H => (aBox (q + 0) t0).go H fun x1 H => newK 1 H fun q H => (aLoad true 4 x1).go H fun x2 H => p (aCall c.pc 16 [x2, t1]) fun x3 => (fun (t2 t3 x1 x3 : V) (q : Nat) (H : L) (c : Cx) (j2 : Nat → Nat → F5) => p (aExt 0 x3) fun x4 => p (aExt 1 x3) fun x5 => (aAlloc (q + 0) z1).go H fun x6 H => (aStore 8 x6 x4).go H fun _ H => p (aBin .eql t2 (ci 0)) fun x7 => guardK x7 true (fun k => (aFld 7 x6).go H k) H fun x8 H => (fun (t2 t3 x1 x6 x7 x8 : V) (H : L) (c : Cx) (j2 : Nat → Nat → F5) => guardK x7 true (fun k => (aLoad false 1 x8).go H k) H fun x9 H => guardK x7 true (fun k => (aLen 1 x9).go H k) H fun x10 H => guardK x7 true (fun k => (aBin .gtr x10 (ci 0)).go H k) H fun x11 H => p (aPick x7 x11 cf) fun x12 => condK x12 (some (.tup [t3, cf], H)) (j2 c.n H.length t2 t3 x1 x6 (ci 0) H)) t2 t3 x1 x6 x7 x8 H c j2) t2 t3 x1 x3 q H c j2
def j244_1 (c : Cx) : F4 := b244_1 c (j244_2 c)
theorem o244_1 (c : Cx) : d244_1 c = j244_1 c := by
  unfold j244_1; rw [← o244_2]
  funext t0 t1 t2 t3 H
  refine Eq.trans (stepK_jn c.pc c.ic c.n _ H _ 18446744073709551631 c244_1) ?_
  kernel_rfl
def b244_0 (c : Cx) (j1 : F4) (t0 t1 t2 t3 : V) (H : List Blk) : X := j1 t0 t1 t2 t3 H
def s244 (c : Cx) (args : List V) (H : List Blk) : X := argsK 4 args (b244_0 c (j244_1 c) (getT args 0) (getT args 1) (getT args 2) (getT args 3) H)
theorem e244 (pc ic n args H) : runK pc ic n c244 args H = s244 ⟨pc, ic, n⟩ args H := by
  unfold s244; rw [← o244_1]
  kernel_rfl
def L244 : Leaf := ⟨c244, fun pc ic n => s244 ⟨pc, ic, n⟩, e244⟩
theorem kk244 : chkFn Go.Proofs.Tryz.prog ET 244 c244 = true := by kernel_rfl

def c246_2 : C := (.seq (.seq (.reg 0 none [m 39 (.t 11) 0, m 40 (.t 2) 1, o 41 (.len 1) [.t 40] 2, o 42 (.bin .lss) [.t 39, .t 41] 3]) (.cond (.t 42) .skip (.exit 0))) (.seq (.blk 1 (.reg 0 (some ⟨true, [], 80⟩) [o 45 (.load true 4) [.t 4] 0, m 46 (.t 2) 1, m 47 (.t 11) 2, ⟨some 48, .ix 2, [.t 46, .t 47], none, 6, 3⟩, ⟨some 49, .load true 2, [.t 48], none, 14, 4⟩, m 50 (.t 10) 5, ⟨some 51, .call 220, [.t 45, .t 49, .t 50], none, 63, 6⟩, ⟨none, .store 4, [.t 4, .t 51], none, 127, 7⟩])) (.reg 0 none [m 43 (.t 11) 0, o 44 (.bin .add) [.t 43, .c (ci 1)] 1, m 11 (.t 44) 2])))
def c246_3 : C := (.seq (.seq (.reg 0 none [m 63 (.t 13) 0, m 64 (.t 12) 1, o 65 (.len 1) [.t 64] 2, o 66 (.bin .lss) [.t 63, .t 65] 3]) (.cond (.t 66) .skip (.exit 2))) (.seq (.blk 3 (.reg 0 (some ⟨true, [], 80⟩) [o 69 (.load true 7) [.t 3] 0, o 70 (.load true 4) [.t 4] 1, o 71 (.load true 7) [.t 3] 2, m 72 (.t 2) 3, m 73 (.t 12) 4, m 74 (.t 13) 5, ⟨some 75, .ix 1, [.t 73, .t 74], none, 48, 6⟩, ⟨some 76, .load false 1, [.t 75], none, 112, 7⟩, ⟨some 77, .call 47, [.t 71, .t 72, .t 76], none, 252, 8⟩, ⟨some 78, .call 246, [.t 69, .t 70, .t 77], none, 511, 9⟩, ⟨none, .store 4, [.t 4, .t 78], none, 1023, 10⟩])) (.reg 0 none [m 67 (.t 13) 0, o 68 (.bin .add) [.t 67, .c (ci 1)] 1, m 13 (.t 68) 2])))
def c246_s1 : C := (.seq (.reg 0 none [o 79 (.load true 4) [.t 4] 0, ⟨none, .store 4, [.t 6, .t 79], none, 0, 1⟩]) .ret)
def c246_s2 : C := (.seq (.seq (.reg 0 none [m 52 (.t 9) 0, o 53 (.un .not) [.t 52] 1]) (.cond (.t 53) (.seq (.reg 0 (some ⟨true, [], 80⟩) [o 54 (.load true 4) [.t 4] 0, m 55 (.t 10) 1, m 56 (.t 2) 2, ⟨some 57, .ix 2, [.t 56, .c (ci 0)], none, 4, 3⟩, ⟨some 58, .load true 2, [.t 57], none, 12, 4⟩, ⟨some 59, .call 216, [.t 54, .t 55, .t 58], none, 31, 5⟩, ⟨none, .store 4, [.t 6, .t 59], none, 63, 6⟩]) .ret) .skip)) (.seq (.reg 0 none [o 60 (.load true 7) [.t 3] 0, m 61 (.t 2) 1, o 62 (.call 104) [.t 60, .t 61] 2, m 12 (.t 62) 3]) (.seq (.seq (.reg 0 none [m 13 (.c (ci 0)) 0]) (.blk 2 (.loop 3626777458843887524130908 false c246_3))) c246_s1)))
def c246_1 : C := (.seq (.reg 3 none [o 3 (.box 0) [.t 0] 0, o 4 (.box 1) [.t 1] 1, o 6 (.alloc 2 z10) [] 2]) (.seq (.reg 0 (some ⟨true, [0, 1, 2, 3, 4, 5, 6, 8, 7, 9], 80⟩) [o 15 (.load true 4) [.t 4] 0, m 16 (.t 2) 1, ⟨some 17, .ix 2, [.t 16, .c (ci 0)], none, 2, 2⟩, ⟨some 18, .load true 2, [.t 17], none, 6, 3⟩, ⟨some 19, .call 14, [.t 15, .t 18], none, 15, 4⟩, ⟨some 14, .mov, [.t 19], none, 31, 5⟩, ⟨some 20, .ext 0, [.t 14], none, 63, 6⟩, ⟨some 21, .ext 1, [.t 14], none, 63, 7⟩, ⟨some 7, .mov, [.t 20], none, 127, 8⟩, ⟨some 8, .mov, [.t 21], none, 511, 9⟩]) (.seq (.reg 0 (some ⟨true, [], 80⟩) [o 22 (.load true 7) [.t 3] 0, m 23 (.t 2) 1, ⟨some 24, .ix 2, [.t 23, .c (ci 0)], none, 2, 2⟩, ⟨some 25, .load true 2, [.t 24], none, 6, 3⟩, ⟨some 26, .call 46, [.t 22, .t 25], none, 15, 4⟩, ⟨some 9, .mov, [.t 26], none, 31, 5⟩]) (.seq (.seq (.reg 0 none [m 27 (.t 8) 0, m 28 (.t 27) 1, ⟨some 29, .mov, [.t 9], some (28, true), 0, 2⟩, ⟨some 30, .un .not, [.t 29], some (28, true), 0, 3⟩, o 31 .pick [.t 28, .t 30, .c cf] 4]) (.cond (.t 31) (.seq (.reg 0 none [o 32 (.load true 4) [.t 4] 0, ⟨none, .store 4, [.t 6, .t 32], none, 0, 1⟩]) .ret) .skip)) (.seq (.reg 0 none [o 33 (.fld 0) [.t 4] 0, o 34 (.load false 1) [.t 33] 1, m 10 (.t 34) 2]) (.seq (.reg 0 none [o 35 (.fld 0) [.t 4] 0, o 36 (.load false 1) [.t 35] 1, o 37 (.bin .add) [.t 36, .c (ci 1)] 2, o 38 (.fld 0) [.t 4] 3, ⟨none, .store 1, [.t 38, .t 37], none, 0, 4⟩]) (.seq (.seq (.reg 0 none [m 11 (.c (ci 0)) 0]) (.blk 0 (.loop 2417851639229258349416028 false c246_2))) c246_s2)))))))
def c246 : Fn := { fid := 246, np := 3, ntmps := 80, body := (.jn 1208925819614629174706183 c246_1), res := [.cell 6 true 4] }
def L246 : Leaf := coldL c246
theorem kk246 : chkFn Go.Proofs.Tryz.prog ET 246 c246 = true := by kernel_rfl

def c247_1 : C := (.seq (.reg 2 none [o 2 (.box 0) [.t 0] 0, o 3 (.box 1) [.t 1] 1, m 4 (.c cf) 2]) (.seq (.reg 0 none [o 5 (.fld 0) [.t 3] 0, o 6 (.fld 0) [.t 5] 1, o 7 (.load false 1) [.t 6] 2, o 8 (.bin .geq) [.t 7, .c (ci 0)] 3, m 9 (.t 8) 4, ⟨some 10, .fld 0, [.t 3], some (9, true), 0, 5⟩, ⟨some 11, .fld 0, [.t 10], some (9, true), 0, 6⟩, ⟨some 12, .load false 1, [.t 11], some (9, true), 0, 7⟩, ⟨some 13, .bin .lss, [.t 12, .c (ci 8)], some (9, true), 0, 8⟩, o 14 .pick [.t 9, .t 13, .c cf] 9, m 15 (.t 14) 10, ⟨some 16, .fld 0, [.t 3], some (15, true), 0, 11⟩, ⟨some 17, .fld 1, [.t 16], some (15, true), 0, 12⟩, ⟨some 18, .load false 1, [.t 17], some (15, true), 0, 13⟩, ⟨some 19, .bin .geq, [.t 18, .c (ci 1)], some (15, true), 0, 14⟩, o 20 .pick [.t 15, .t 19, .c cf] 15, m 21 (.t 20) 16, ⟨some 22, .fld 0, [.t 3], some (21, true), 0, 17⟩, ⟨some 23, .fld 1, [.t 22], some (21, true), 0, 18⟩, ⟨some 24, .load false 1, [.t 23], some (21, true), 0, 19⟩, ⟨some 25, .bin .leq, [.t 24, .c (ci 2147483647)], some (21, true), 0, 20⟩, o 26 .pick [.t 21, .t 25, .c cf] 21, m 27 (.t 26) 22, ⟨some 28, .fld 2, [.t 3], some (27, true), 0, 23⟩, ⟨some 29, .load false 1, [.t 28], some (27, true), 0, 24⟩, ⟨some 30, .bin .geq, [.t 29, .c (ci 1)], some (27, true), 0, 25⟩, o 31 .pick [.t 27, .t 30, .c cf] 26, m 32 (.t 31) 27, ⟨some 33, .fld 2, [.t 3], some (32, true), 0, 28⟩, ⟨some 34, .load false 1, [.t 33], some (32, true), 0, 29⟩, ⟨some 35, .fld 0, [.t 2], some (32, true), 0, 30⟩, ⟨some 36, .load false 1, [.t 35], some (32, true), 0, 31⟩, ⟨some 37, .bin .lss, [.t 34, .t 36], some (32, true), 0, 32⟩, o 38 .pick [.t 32, .t 37, .c cf] 33, m 4 (.t 38) 34]) .ret))
def c247 : Fn := { fid := 247, np := 2, ntmps := 39, body := (.jn 549755813891 c247_1), res := [.tmp 4] }
def L247 : Leaf := coldL c247
theorem kk247 : chkFn Go.Proofs.Tryz.prog ET 247 c247 = true := by kernel_rfl

def c248_1 : C := (.seq (.reg 2 none [o 2 (.box 0) [.t 0] 0, o 3 (.box 1) [.t 1] 1, m 4 (.c cf) 2]) (.seq (.reg 0 none [o 5 (.fld 0) [.t 2] 0, o 6 (.load false 1) [.t 5] 1, o 7 (.fld 0) [.t 3] 2, o 8 (.load false 1) [.t 7] 3, o 9 (.bin .lss) [.t 6, .t 8] 4, m 10 (.t 9) 5, ⟨some 11, .fld 0, [.t 2], some (10, false), 0, 6⟩, ⟨some 12, .load false 1, [.t 11], some (10, false), 0, 7⟩, ⟨some 13, .fld 0, [.t 3], some (10, false), 0, 8⟩, ⟨some 14, .load false 1, [.t 13], some (10, false), 0, 9⟩, ⟨some 15, .bin .eql, [.t 12, .t 14], some (10, false), 0, 10⟩, ⟨some 16, .mov, [.t 15], some (10, false), 0, 11⟩, ⟨some 17, .fld 1, [.t 2], some (16, true), 0, 12⟩, ⟨some 18, .load false 1, [.t 17], some (16, true), 0, 13⟩, ⟨some 19, .fld 1, [.t 3], some (16, true), 0, 14⟩, ⟨some 20, .load false 1, [.t 19], some (16, true), 0, 15⟩, ⟨some 21, .bin .lss, [.t 18, .t 20], some (16, true), 0, 16⟩, ⟨some 22, .pick, [.t 16, .t 21, .c cf], some (10, false), 0, 17⟩, o 23 .pick [.t 10, .c ct, .t 22] 18, m 4 (.t 23) 19]) .ret))
def c248 : Fn := { fid := 248, np := 2, ntmps := 24, body := (.jn 16777219 c248_1), res := [.tmp 4] }
def L248 : Leaf := coldL c248
theorem kk248 : chkFn Go.Proofs.Tryz.prog ET 248 c248 = true := by kernel_rfl

def c251_1 : C := (.seq (.reg 2 none [o 3 (.box 0) [.t 0] 0, o 4 (.box 1) [.t 1] 1, m 6 (.c cf) 2]) (.seq (.reg 1 none [o 10 (.load true 7) [.t 3] 0, o 11 (.load true 2) [.t 4] 1, o 12 (.call 196) [.t 10, .t 11] 2, o 7 (.alloc 0 z1) [] 3, ⟨none, .store 8, [.t 7, .t 12], none, 0, 4⟩]) (.seq (.reg 0 none [o 14 (.load true 8) [.t 7] 0, m 15 (.t 2) 1, o 16 (.call 90) [.t 14, .t 15] 2, m 13 (.t 16) 3, o 17 (.ext 0) [.t 13] 4, o 18 (.ext 1) [.t 13] 5, m 8 (.t 17) 6, m 9 (.t 18) 7]) (.seq (.reg 0 none [m 19 (.t 9) 0, m 20 (.t 19) 1, ⟨some 21, .fld 1, [.t 7], some (20, true), 0, 2⟩, ⟨some 22, .load false 1, [.t 21], some (20, true), 0, 3⟩, ⟨some 23, .bin .eql, [.t 22, .c (ci 2)], some (20, true), 0, 4⟩, o 24 .pick [.t 20, .t 23, .c cf] 5, m 25 (.t 24) 6, ⟨some 26, .fld 0, [.t 3], some (25, true), 0, 7⟩, ⟨some 27, .load true 2, [.t 26], some (25, true), 0, 8⟩, ⟨some 28, .fld 0, [.t 4], some (25, true), 0, 9⟩, ⟨some 29, .load false 1, [.t 28], some (25, true), 0, 10⟩, ⟨some 30, .call 289, [.t 27, .t 29], some (25, true), 0, 11⟩, o 31 .pick [.t 25, .t 30, .c cf] 12, m 6 (.t 31) 13]) .ret))))
def c251 : Fn := { fid := 251, np := 3, ntmps := 32, body := (.jn 4294967303 c251_1), res := [.tmp 6] }
def d251_1 (c : Cx) (t0 t1 t2 : V) (H : List Blk) : X := stepK c.pc c.ic c.n (.jn 4294967303 c251_1) (cn 0 32 [(0, t0), (1, t1), (2, t2)]) H (kTop c251.res)
def b251_1 (c : Cx) (t0 t1 t2 : V) (H : List Blk) : X := newK 2 H fun q H => (aBox (q + 0) t0).go H fun x1 H => (aBox (q + 1) t1).go H fun x2 H => newK 1 H fun q H => (aLoad true 7 x1).go H fun x3 H => (fun (t2 x1 x2 x3 : V) (q : Nat) (H : L) (c : Cx) => (aLoad true 2 x2).go H fun x4 H => p (aCall c.pc 196 [x3, x4]) fun x5 => (aAlloc (q + 0) z1).go H fun x6 H => (aStore 8 x6 x5).go H fun _ H => (aLoad true 8 x6).go H fun x7 H => p (aCall c.pc 90 [x7, t2]) fun x8 => p (aExt 0 x8) fun x9 => p (aExt 1 x8) fun x10 => guardK x10 true (fun k => (aFld 1 x6).go H k) H fun x11 H => guardK x10 true (fun k => (aLoad false 1 x11).go H k) H fun x12 H => (fun (x1 x2 x10 x12 : V) (H : L) (c : Cx) => guardK x10 true (fun k => (aBin .eql x12 (ci 2)).go H k) H fun x13 H => p (aPick x10 x13 cf) fun x14 => guardK x14 true (fun k => (aFld 0 x1).go H k) H fun x15 H => guardK x14 true (fun k => (aLoad true 2 x15).go H k) H fun x16 H => (fun (x2 x14 x16 : V) (H : L) (c : Cx) => guardK x14 true (fun k => (aFld 0 x2).go H k) H fun x17 H => guardK x14 true (fun k => (aLoad false 1 x17).go H k) H fun x18 H => guardK x14 true (fun k => (aCall c.pc 289 [x16, x18]).go H k) H fun x19 H => p (aPick x14 x19 cf) fun x20 => some (x20, H)) x2 x14 x16 H c) x1 x2 x10 x12 H c) t2 x1 x2 x3 q H c
def j251_1 (c : Cx) : F3 := b251_1 c
theorem o251_1 (c : Cx) : d251_1 c = j251_1 c := by
  unfold j251_1
  funext t0 t1 t2 H
  refine Eq.trans (stepK_jn c.pc c.ic c.n _ H _ 4294967303 c251_1) ?_
  kernel_rfl
def b251_0 (c : Cx) (j1 : F3) (t0 t1 t2 : V) (H : List Blk) : X := j1 t0 t1 t2 H
def s251 (c : Cx) (args : List V) (H : List Blk) : X := argsK 3 args (b251_0 c (j251_1 c) (getT args 0) (getT args 1) (getT args 2) H)
theorem e251 (pc ic n args H) : runK pc ic n c251 args H = s251 ⟨pc, ic, n⟩ args H := by
  unfold s251; rw [← o251_1]
  kernel_rfl
def L251 : Leaf := ⟨c251, fun pc ic n => s251 ⟨pc, ic, n⟩, e251⟩
theorem kk251 : chkFn Go.Proofs.Tryz.prog ET 251 c251 = true := by kernel_rfl

def c252 : Fn := { fid := 252, np := 1, ntmps := 6, body := (.seq (.reg 0 none [m 2 (.c cf) 0]) (.seq (.reg 0 none [m 3 (.t 0) 0, m 4 (.t 0) 1, o 5 (.bin .neq) [.t 3, .t 4] 2, m 2 (.t 5) 3]) .ret)), res := [.tmp 2] }
def b252_0 (c : Cx) (t0 : V) (H : List Blk) : X := p (aBin .neq t0 t0) fun x1 => some (x1, H)
def s252 (c : Cx) (args : List V) (H : List Blk) : X := argsK 1 args (b252_0 c (getT args 0) H)
theorem e252 (pc ic n args H) : runK pc ic n c252 args H = s252 ⟨pc, ic, n⟩ args H := by
  unfold s252
  kernel_rfl
def L252 : Leaf := ⟨c252, fun pc ic n => s252 ⟨pc, ic, n⟩, e252⟩
theorem kk252 : chkFn Go.Proofs.Tryz.prog ET 252 c252 = true := by kernel_rfl

def c253 : Fn := { fid := 253, np := 1, ntmps := 6, body := (.seq (.reg 0 none [m 2 (.c cf) 0]) (.seq (.reg 0 none [m 3 (.t 0) 0, m 4 (.t 0) 1, o 5 (.bin .neq) [.t 3, .t 4] 2, m 2 (.t 5) 3]) .ret)), res := [.tmp 2] }
def b253_0 (c : Cx) (t0 : V) (H : List Blk) : X := p (aBin .neq t0 t0) fun x1 => some (x1, H)
def s253 (c : Cx) (args : List V) (H : List Blk) : X := argsK 1 args (b253_0 c (getT args 0) H)
theorem e253 (pc ic n args H) : runK pc ic n c253 args H = s253 ⟨pc, ic, n⟩ args H := by
  unfold s253
  kernel_rfl
def L253 : Leaf := ⟨c253, fun pc ic n => s253 ⟨pc, ic, n⟩, e253⟩
theorem kk253 : chkFn Go.Proofs.Tryz.prog ET 253 c253 = true := by kernel_rfl

def c254_2 : C := (.seq (.seq (.reg 0 none [m 15 (.t 9) 0, m 16 (.t 10) 1, o 17 (.bin .lss) [.t 15, .t 16] 2]) (.cond (.t 17) .skip (.exit 0))) (.blk 1 (.seq (.reg 0 none [m 18 (.t 9) 0, m 19 (.t 10) 1, o 20 (.bin .add) [.t 18, .t 19] 2, o 21 (.toInt .u64) [.t 20] 3, o 22 (.bin .shr) [.t 21, .c (.d (.int .u64 1))] 4, o 23 (.toInt .i64) [.t 22] 5, m 11 (.t 23) 6]) (.seq (.reg 0 none [m 24 (.t 2) 0, m 25 (.t 0) 1, m 26 (.t 11) 2, o 27 (.ix 8) [.t 25, .t 26] 3, o 28 (.load true 8) [.t 27] 4, m 29 (.t 1) 5, o 30 .dcall [.t 24, .t 28, .t 29] 6, o 31 (.bin .lss) [.t 30, .c (ci 0)] 7]) (.cond (.t 31) (.reg 0 none [m 32 (.t 11) 0, o 33 (.bin .add) [.t 32, .c (ci 1)] 1, m 9 (.t 33) 2]) (.reg 0 none [m 34 (.t 11) 0, m 10 (.t 34) 1]))))))
def c254_s1 : C := (.seq (.reg 0 none [m 35 (.t 9) 0, m 36 (.t 9) 1, m 37 (.t 8) 2, o 38 (.bin .lss) [.t 36, .t 37] 3, m 39 (.t 38) 4, ⟨some 40, .mov, [.t 2], some (39, true), 0, 5⟩, ⟨some 41, .mov, [.t 0], some (39, true), 0, 6⟩, ⟨some 42, .mov, [.t 9], some (39, true), 0, 7⟩, ⟨some 43, .ix 8, [.t 41, .t 42], some (39, true), 0, 8⟩, ⟨some 44, .load true 8, [.t 43], some (39, true), 0, 9⟩, ⟨some 45, .mov, [.t 1], some (39, true), 0, 10⟩, ⟨some 46, .dcall, [.t 40, .t 44, .t 45], some (39, true), 0, 11⟩, ⟨some 47, .bin .eql, [.t 46, .c (ci 0)], some (39, true), 0, 12⟩, o 48 .pick [.t 39, .t 47, .c cf] 13, m 6 (.t 35) 14, m 7 (.t 48) 15]) .ret)
def c254_1 : C := (.seq (.reg 0 none [m 6 (.c (ci 0)) 0, m 7 (.c cf) 1]) (.seq (.reg 0 none [m 12 (.t 0) 0, o 13 (.len 1) [.t 12] 1, m 8 (.t 13) 2]) (.seq (.reg 0 none [m 14 (.t 8) 0, m 9 (.c (ci 0)) 1, m 10 (.t 14) 2]) (.seq (.blk 0 (.loop 1125899906844423 true c254_2)) c254_s1))))
def c254 : Fn := { fid := 254, np := 3, ntmps := 49, body := (.jn 562949953421319 c254_1), res := [.tmp 6, .tmp 7] }
def d254_1 (c : Cx) (t0 t1 t2 : V) (H : List Blk) : X := stepK c.pc c.ic c.n (.jn 562949953421319 c254_1) (cn 0 49 [(0, t0), (1, t1), (2, t2)]) H (kTop c254.res)
def k254_1 (c : Cx) : KT := thenK (stepK c.pc c.ic c.n c254_s1) (kTop c254.res)
def k254_2 (c : Cx) : KT := blkK 0 (k254_1 c)
def d254_2 (c : Cx) (m n2 : Nat) (t0 t1 t2 t8 t9 t10 : V) (H : List Blk) : X := jnK (loopsK (stepK c.pc c.ic c.n c254_2) 1125899906844423 true n2 m) (cn 0 49 [(0, t0), (1, t1), (2, t2), (8, t8), (9, t9), (10, t10)]) H (k254_2 c) 1125899906844423
def b254_2 (c : Cx) (r2 : F6) (n2 : Nat) (t0 t1 t2 t8 t9 t10 : V) (H : List Blk) : X := bnd (trimF true n2 [t0, t1, t2, t8, t9, t10] H) fun H => p (aBin .lss t9 t10) fun x1 => condK x1 ((fun (t0 t1 t2 t8 t9 t10 : V) (H : L) (c : Cx) (r2 : F6) => p (aBin .add t9 t10) fun x2 => p (aToInt .u64 x2) fun x3 => p (aBin .shr x3 (.d (.int .u64 1))) fun x4 => p (aToInt .i64 x4) fun x5 => p (aIx 8 t0 x5) fun x6 => (aLoad true 8 x6).go H fun x7 H => callK c.ic [t2, x7, t1] H fun x8 H => p (aBin .lss x8 (ci 0)) fun x9 => condK x9 (p (aBin .add x5 (ci 1)) fun x10 => r2 t0 t1 t2 t8 x10 t10 H) (r2 t0 t1 t2 t8 t9 x5 H)) t0 t1 t2 t8 t9 t10 H c r2) ((fun (t0 t1 t2 t8 t9 : V) (H : L) (c : Cx) => p (aBin .lss t9 t8) fun x11 => guardK x11 true (fun k => (aMov t2).go H k) H fun x12 H => (fun (t0 t1 t9 x11 x12 : V) (H : L) (c : Cx) => guardK x11 true (fun k => (aMov t0).go H k) H fun x13 H => guardK x11 true (fun k => (aMov t9).go H k) H fun x14 H => guardK x11 true (fun k => (aIx 8 x13 x14).go H k) H fun x15 H => guardK x11 true (fun k => (aLoad true 8 x15).go H k) H fun x16 H => (fun (t1 t9 x11 x12 x16 : V) (H : L) (c : Cx) => guardK x11 true (fun k => (aMov t1).go H k) H fun x17 H => guardK x11 true (callK c.ic [x12, x16, x17] H) H fun x18 H => guardK x11 true (fun k => (aBin .eql x18 (ci 0)).go H k) H fun x19 H => p (aPick x11 x19 cf) fun x20 => some (.tup [t9, x20], H)) t1 t9 x11 x12 x16 H c) t0 t1 t9 x11 x12 H c) t0 t1 t2 t8 t9 H c)
def j254_2 (c : Cx) : Nat → Nat → F6 := recN (fun _ _ _ _ _ _ _ _ => none) fun ih n2 => b254_2 c (ih n2) n2
theorem o254_2 (c : Cx) : d254_2 c = j254_2 c := by
  unfold j254_2
  refine recN_ok (by kernel_rfl) fun m => funext fun n2 => ?_
  funext t0 t1 t2 t8 t9 t10 H
  refine Eq.trans (jnK_eq 1125899906844423 _ _ H _) ?_
  kernel_rfl
def b254_1 (c : Cx) (j2 : Nat → Nat → F6) (t0 t1 t2 : V) (H : List Blk) : X := (aLen 1 t0).go H fun x1 H => j2 c.n H.length t0 t1 t2 x1 (ci 0) x1 H
def j254_1 (c : Cx) : F3 := b254_1 c (j254_2 c)
theorem o254_1 (c : Cx) : d254_1 c = j254_1 c := by
  unfold j254_1; rw [← o254_2]
  funext t0 t1 t2 H
  refine Eq.trans (stepK_jn c.pc c.ic c.n _ H _ 562949953421319 c254_1) ?_
  kernel_rfl
def b254_0 (c : Cx) (j1 : F3) (t0 t1 t2 : V) (H : List Blk) : X := j1 t0 t1 t2 H
def s254 (c : Cx) (args : List V) (H : List Blk) : X := argsK 3 args (b254_0 c (j254_1 c) (getT args 0) (getT args 1) (getT args 2) H)
theorem e254 (pc ic n args H) : runK pc ic n c254 args H = s254 ⟨pc, ic, n⟩ args H := by
  unfold s254; rw [← o254_1]
  kernel_rfl
def L254 : Leaf := ⟨c254, fun pc ic n => s254 ⟨pc, ic, n⟩, e254⟩
theorem kk254 : chkFn Go.Proofs.Tryz.prog ET 254 c254 = true := by kernel_rfl

def c255 : Fn := { fid := 255, np := 2, ntmps := 9, body := (.seq (.reg 1 none [o 2 (.box 0) [.t 0] 0, m 4 (.c (ci 0)) 1]) (.seq (.reg 0 none [o 5 (.fld 0) [.t 2] 0, o 6 (.load false 1) [.t 5] 1, m 7 (.t 1) 2, o 8 (.call 165) [.t 6, .t 7] 3, m 4 (.t 8) 4]) .ret)), res := [.tmp 4] }
def b255_0 (c : Cx) (t0 t1 : V) (H : List Blk) : X := newK 1 H fun q H => (aBox (q + 0) t0).go H fun x1 H => p (aFld 0 x1) fun x2 => (aLoad false 1 x2).go H fun x3 H => p (aCall c.pc 165 [x3, t1]) fun x4 => some (x4, H)
def s255 (c : Cx) (args : List V) (H : List Blk) : X := argsK 2 args (b255_0 c (getT args 0) (getT args 1) H)
theorem e255 (pc ic n args H) : runK pc ic n c255 args H = s255 ⟨pc, ic, n⟩ args H := by
  unfold s255
  kernel_rfl
def L255 : Leaf := ⟨c255, fun pc ic n => s255 ⟨pc, ic, n⟩, e255⟩
theorem kk255 : chkFn Go.Proofs.Tryz.prog ET 255 c255 = true := by kernel_rfl

def l256_0 : List O := [o 14 (.fld 1) [.t 1] 0, ⟨some 15, .load false 1, [.t 14], none, 1, 1⟩, m 16 (.t 3) 2, o 17 (.fld 1) [.t 1] 3, ⟨some 18, .load false 1, [.t 17], none, 8, 4⟩, m 19 (.t 3) 5, ⟨some 20, .ix 2, [.t 18, .t 19], none, 56, 6⟩, ⟨some 21, .fld 1, [.t 20], none, 120, 7⟩, ⟨some 22, .load false 1, [.t 21], none, 248, 8⟩, ⟨some 23, .cloneA 0 1 1, [.t 22], none, 504, 9⟩, ⟨some 24, .ix 2, [.t 15, .t 16], none, 1023, 10⟩, ⟨some 25, .fld 1, [.t 24], none, 2047, 11⟩, ⟨none, .store 1, [.t 25, .t 23], none, 4095, 12⟩]
def c256_2 : C := (.seq (.reg 0 none [o 12 (.bin .lss) [.t 11, .t 10] 0]) (.seq (.cond (.t 12) .skip (.exit 0)) (.seq (.blk 1 (.seq (.reg 0 none [m 13 (.t 11) 0, m 3 (.t 13) 1]) (.reg 1 (some ⟨false, [], 28⟩) l256_0))) (.reg 0 none [o 26 (.bin .add) [.t 11, .c (ci 1)] 0, m 11 (.t 26) 1]))))
def c256_s1 : C := (.seq (.reg 0 none [o 27 (.load true 2) [.t 1] 0, ⟨none, .store 2, [.t 2, .t 27], none, 0, 1⟩]) .ret)
def c256_1 : C := (.seq (.reg 2 none [o 1 (.box 0) [.t 0] 0, o 2 (.alloc 1 [(ci 0), .nilS]) [] 1]) (.seq (.reg 1 none [o 4 (.fld 1) [.t 1] 0, o 5 (.load false 1) [.t 4] 1, o 6 (.cloneA 0 2 32) [.t 5] 2, o 7 (.fld 1) [.t 1] 3, ⟨none, .store 1, [.t 7, .t 6], none, 0, 4⟩]) (.seq (.seq (.reg 0 none [o 8 (.fld 1) [.t 1] 0, o 9 (.load false 1) [.t 8] 1, o 10 (.len 1) [.t 9] 2, m 11 (.c (ci 0)) 3]) (.blk 0 (.loop 536873990 false c256_2))) c256_s1)))
def c256 : Fn := { fid := 256, np := 1, ntmps := 28, body := (.jn 268435457 c256_1), res := [.cell 2 true 2] }
def d256_1 (c : Cx) (t0 : V) (H : List Blk) : X := stepK c.pc c.ic c.n (.jn 268435457 c256_1) (cn 0 28 [(0, t0)]) H (kTop c256.res)
def k256_1 (c : Cx) : KT := thenK (stepK c.pc c.ic c.n c256_s1) (kTop c256.res)
def k256_2 (c : Cx) : KT := blkK 0 (k256_1 c)
def d256_2 (c : Cx) (m n2 : Nat) (t1 t2 t10 t11 : V) (H : List Blk) : X := jnK (loopsK (stepK c.pc c.ic c.n c256_2) 536873990 false n2 m) (cn 0 28 [(1, t1), (2, t2), (10, t10), (11, t11)]) H (k256_2 c) 536873990
def b256_2 (c : Cx) (r2 : F4) (n2 : Nat) (t1 t2 t10 t11 : V) (H : List Blk) : X := p (aBin .lss t11 t10) fun x1 => condK x1 ((fun (t1 t2 t10 t11 x1 : V) (H : L) (c : Cx) (r2 : F4) => newK 1 H fun q H => drawnK c.pc c.ic l256_0 q (cn 0 28 [(1, t1), (2, t2), (3, t11), (10, t10), (11, t11), (12, x1), (13, t11)]) H fun ts1 H => p (aBin .add (getT ts1 11) (ci 1)) fun x3 => r2 (getT ts1 1) (getT ts1 2) (getT ts1 10) x3 H) t1 t2 t10 t11 x1 H c r2) ((aLoad true 2 t1).go H fun x4 H => (aStore 2 t2 x4).go H fun _ H => bnd (loadV true 2 t2 H) fun x5 => some (x5, H))
def j256_2 (c : Cx) : Nat → Nat → F4 := recN (fun _ _ _ _ _ _ => none) fun ih n2 => b256_2 c (ih n2) n2
theorem o256_2 (c : Cx) : d256_2 c = j256_2 c := by
  unfold j256_2
  refine recN_ok (by kernel_rfl) fun m => funext fun n2 => ?_
  funext t1 t2 t10 t11 H
  refine Eq.trans (jnK_eq 536873990 _ _ H _) ?_
  kernel_rfl
def b256_1 (c : Cx) (j2 : Nat → Nat → F4) (t0 : V) (H : List Blk) : X := newK 2 H fun q H => (aBox (q + 0) t0).go H fun x1 H => (aAlloc (q + 1) [(ci 0), .nilS]).go H fun x2 H => newK 1 H fun q H => p (aFld 1 x1) fun x3 => (fun (x1 x2 x3 : V) (q : Nat) (H : L) (c : Cx) (j2 : Nat → Nat → F4) => (aLoad false 1 x3).go H fun x4 H => (aCloneA (q + 0) 2 32 x4).go H fun x5 H => p (aFld 1 x1) fun x6 => (aStore 1 x6 x5).go H fun _ H => p (aFld 1 x1) fun x7 => (aLoad false 1 x7).go H fun x8 H => (aLen 1 x8).go H fun x9 H => j2 c.n H.length x1 x2 x9 (ci 0) H) x1 x2 x3 q H c j2
def j256_1 (c : Cx) : F1 := b256_1 c (j256_2 c)
theorem o256_1 (c : Cx) : d256_1 c = j256_1 c := by
  unfold j256_1; rw [← o256_2]
  funext t0 H
  refine Eq.trans (stepK_jn c.pc c.ic c.n _ H _ 268435457 c256_1) ?_
  kernel_rfl
def b256_0 (c : Cx) (j1 : F1) (t0 : V) (H : List Blk) : X := j1 t0 H
def s256 (c : Cx) (args : List V) (H : List Blk) : X := argsK 1 args (b256_0 c (j256_1 c) (getT args 0) H)
theorem e256 (pc ic n args H) : runK pc ic n c256 args H = s256 ⟨pc, ic, n⟩ args H := by
  unfold s256; rw [← o256_1]
  kernel_rfl
def L256 : Leaf := ⟨c256, fun pc ic n => s256 ⟨pc, ic, n⟩, e256⟩
theorem kk256 : chkFn Go.Proofs.Tryz.prog ET 256 c256 = true := by kernel_rfl

def c258_2 : C := (.seq (.reg 0 none [o 13 (.bin .lss) [.t 12, .t 11] 0]) (.seq (.cond (.t 13) .skip (.exit 0)) (.seq (.blk 1 (.seq (.reg 1 none [m 14 (.t 12) 0, o 15 (.ix 8) [.t 10, .t 12] 1, o 16 (.load true 8) [.t 15] 2, o 4 (.alloc 0 z1) [] 3, m 3 (.t 14) 4, ⟨none, .store 8, [.t 4, .t 16], none, 0, 5⟩]) (.reg 0 (some ⟨true, [], 25⟩) [o 17 (.fld 3) [.t 1] 0, ⟨some 18, .load false 1, [.t 17], none, 1, 1⟩, m 19 (.t 3) 2, o 20 (.load true 8) [.t 4] 3, ⟨some 21, .call 167, [.t 20], none, 8, 4⟩, ⟨some 22, .ix 8, [.t 18, .t 19], none, 31, 5⟩, ⟨none, .store 8, [.t 22, .t 21], none, 63, 6⟩]))) (.reg 0 none [o 23 (.bin .add) [.t 12, .c (ci 1)] 0, m 12 (.t 23) 1]))))
def c258_s1 : C := (.seq (.reg 0 none [o 24 (.load true 4) [.t 1] 0, ⟨none, .store 4, [.t 2, .t 24], none, 0, 1⟩]) .ret)
def c258_1 : C := (.seq (.reg 2 none [o 1 (.box 0) [.t 0] 0, o 2 (.alloc 1 z0) [] 1]) (.seq (.reg 1 none [o 5 (.fld 3) [.t 1] 0, o 6 (.load false 1) [.t 5] 1, o 7 (.cloneA 0 8 104) [.t 6] 2, o 8 (.fld 3) [.t 1] 3, ⟨none, .store 1, [.t 8, .t 7], none, 0, 4⟩]) (.seq (.seq (.reg 0 none [o 9 (.fld 3) [.t 1] 0, o 10 (.load false 1) [.t 9] 1, o 11 (.len 1) [.t 10] 2, m 12 (.c (ci 0)) 3]) (.blk 0 (.loop 67116038 true c258_2))) c258_s1)))
def c258 : Fn := { fid := 258, np := 1, ntmps := 25, body := (.jn 33554433 c258_1), res := [.cell 2 true 4] }
def d258_1 (c : Cx) (t0 : V) (H : List Blk) : X := stepK c.pc c.ic c.n (.jn 33554433 c258_1) (cn 0 25 [(0, t0)]) H (kTop c258.res)
def k258_1 (c : Cx) : KT := thenK (stepK c.pc c.ic c.n c258_s1) (kTop c258.res)
def k258_2 (c : Cx) : KT := blkK 0 (k258_1 c)
def d258_2 (c : Cx) (m n2 : Nat) (t1 t2 t10 t11 t12 : V) (H : List Blk) : X := jnK (loopsK (stepK c.pc c.ic c.n c258_2) 67116038 true n2 m) (cn 0 25 [(1, t1), (2, t2), (10, t10), (11, t11), (12, t12)]) H (k258_2 c) 67116038
def b258_2 (c : Cx) (r2 : F5) (n2 : Nat) (t1 t2 t10 t11 t12 : V) (H : List Blk) : X := bnd (trimF true n2 [t1, t2, t10, t11, t12] H) fun H => p (aBin .lss t12 t11) fun x1 => condK x1 ((fun (t1 t2 t10 t11 t12 : V) (H : L) (c : Cx) (r2 : F5) => newK 1 H fun q H => (fun (t1 t2 t10 t11 t12 : V) (q : Nat) (H : L) (c : Cx) (r2 : F5) => p (aIx 8 t10 t12) fun x2 => (aLoad true 8 x2).go H fun x3 H => (aAlloc (q + 0) z1).go H fun x4 H => (aStore 8 x4 x3).go H fun _ H => p (aFld 3 t1) fun x5 => (aLoad false 1 x5).go H fun x6 H => (fun (t1 t2 t10 t11 t12 x4 x6 : V) (H : L) (c : Cx) (r2 : F5) => (aLoad true 8 x4).go H fun x7 H => p (aCall c.pc 167 [x7]) fun x8 => p (aIx 8 x6 t12) fun x9 => (aStore 8 x9 x8).go H fun _ H => p (aBin .add t12 (ci 1)) fun x10 => r2 t1 t2 t10 t11 x10 H) t1 t2 t10 t11 t12 x4 x6 H c r2) t1 t2 t10 t11 t12 q H c r2) t1 t2 t10 t11 t12 H c r2) ((aLoad true 4 t1).go H fun x11 H => (aStore 4 t2 x11).go H fun _ H => bnd (loadV true 4 t2 H) fun x12 => some (x12, H))
def j258_2 (c : Cx) : Nat → Nat → F5 := recN (fun _ _ _ _ _ _ _ => none) fun ih n2 => b258_2 c (ih n2) n2
theorem o258_2 (c : Cx) : d258_2 c = j258_2 c := by
  unfold j258_2
  refine recN_ok (by kernel_rfl) fun m => funext fun n2 => ?_
  funext t1 t2 t10 t11 t12 H
  refine Eq.trans (jnK_eq 67116038 _ _ H _) ?_
  kernel_rfl
def b258_1 (c : Cx) (j2 : Nat → Nat → F5) (t0 : V) (H : List Blk) : X := newK 2 H fun q H => (aBox (q + 0) t0).go H fun x1 H => (aAlloc (q + 1) z0).go H fun x2 H => newK 1 H fun q H => p (aFld 3 x1) fun x3 => (fun (x1 x2 x3 : V) (q : Nat) (H : L) (c : Cx) (j2 : Nat → Nat → F5) => (aLoad false 1 x3).go H fun x4 H => (aCloneA (q + 0) 8 104 x4).go H fun x5 H => p (aFld 3 x1) fun x6 => (aStore 1 x6 x5).go H fun _ H => p (aFld 3 x1) fun x7 => (aLoad false 1 x7).go H fun x8 H => (aLen 1 x8).go H fun x9 H => j2 c.n H.length x1 x2 x8 x9 (ci 0) H) x1 x2 x3 q H c j2
def j258_1 (c : Cx) : F1 := b258_1 c (j258_2 c)
theorem o258_1 (c : Cx) : d258_1 c = j258_1 c := by
  unfold j258_1; rw [← o258_2]
  funext t0 H
  refine Eq.trans (stepK_jn c.pc c.ic c.n _ H _ 33554433 c258_1) ?_
  kernel_rfl
def b258_0 (c : Cx) (j1 : F1) (t0 : V) (H : List Blk) : X := j1 t0 H
def s258 (c : Cx) (args : List V) (H : List Blk) : X := argsK 1 args (b258_0 c (j258_1 c) (getT args 0) H)
theorem e258 (pc ic n args H) : runK pc ic n c258 args H = s258 ⟨pc, ic, n⟩ args H := by
  unfold s258; rw [← o258_1]
  kernel_rfl
def L258 : Leaf := ⟨c258, fun pc ic n => s258 ⟨pc, ic, n⟩, e258⟩
theorem kk258 : chkFn Go.Proofs.Tryz.prog ET 258 c258 = true := by kernel_rfl

def c261_2 : C := (.seq (.seq (.reg 0 none [m 15 (.t 9) 0, m 16 (.t 10) 1, o 17 (.bin .lss) [.t 15, .t 16] 2]) (.cond (.t 17) .skip (.exit 0))) (.blk 1 (.seq (.reg 0 none [m 18 (.t 9) 0, m 19 (.t 10) 1, o 20 (.bin .add) [.t 18, .t 19] 2, o 21 (.toInt .u64) [.t 20] 3, o 22 (.bin .shr) [.t 21, .c (.d (.int .u64 1))] 4, o 23 (.toInt .i64) [.t 22] 5, m 11 (.t 23) 6]) (.seq (.reg 0 none [m 24 (.t 2) 0, m 25 (.t 0) 1, m 26 (.t 11) 2, o 27 (.ix 2) [.t 25, .t 26] 3, o 28 (.load true 2) [.t 27] 4, m 29 (.t 1) 5, o 30 .dcall [.t 24, .t 28, .t 29] 6, o 31 (.bin .lss) [.t 30, .c (ci 0)] 7]) (.cond (.t 31) (.reg 0 none [m 32 (.t 11) 0, o 33 (.bin .add) [.t 32, .c (ci 1)] 1, m 9 (.t 33) 2]) (.reg 0 none [m 34 (.t 11) 0, m 10 (.t 34) 1]))))))
def c261_s1 : C := (.seq (.reg 0 none [m 35 (.t 9) 0, m 36 (.t 9) 1, m 37 (.t 8) 2, o 38 (.bin .lss) [.t 36, .t 37] 3, m 39 (.t 38) 4, ⟨some 40, .mov, [.t 2], some (39, true), 0, 5⟩, ⟨some 41, .mov, [.t 0], some (39, true), 0, 6⟩, ⟨some 42, .mov, [.t 9], some (39, true), 0, 7⟩, ⟨some 43, .ix 2, [.t 41, .t 42], some (39, true), 0, 8⟩, ⟨some 44, .load true 2, [.t 43], some (39, true), 0, 9⟩, ⟨some 45, .mov, [.t 1], some (39, true), 0, 10⟩, ⟨some 46, .dcall, [.t 40, .t 44, .t 45], some (39, true), 0, 11⟩, ⟨some 47, .bin .eql, [.t 46, .c (ci 0)], some (39, true), 0, 12⟩, o 48 .pick [.t 39, .t 47, .c cf] 13, m 6 (.t 35) 14, m 7 (.t 48) 15]) .ret)
def c261_1 : C := (.seq (.reg 0 none [m 6 (.c (ci 0)) 0, m 7 (.c cf) 1]) (.seq (.reg 0 none [m 12 (.t 0) 0, o 13 (.len 1) [.t 12] 1, m 8 (.t 13) 2]) (.seq (.reg 0 none [m 14 (.t 8) 0, m 9 (.c (ci 0)) 1, m 10 (.t 14) 2]) (.seq (.blk 0 (.loop 1125899906844423 true c261_2)) c261_s1))))
def c261 : Fn := { fid := 261, np := 3, ntmps := 49, body := (.jn 562949953421319 c261_1), res := [.tmp 6, .tmp 7] }
def d261_1 (c : Cx) (t0 t1 t2 : V) (H : List Blk) : X := stepK c.pc c.ic c.n (.jn 562949953421319 c261_1) (cn 0 49 [(0, t0), (1, t1), (2, t2)]) H (kTop c261.res)
def k261_1 (c : Cx) : KT := thenK (stepK c.pc c.ic c.n c261_s1) (kTop c261.res)
def k261_2 (c : Cx) : KT := blkK 0 (k261_1 c)
def d261_2 (c : Cx) (m n2 : Nat) (t0 t1 t2 t8 t9 t10 : V) (H : List Blk) : X := jnK (loopsK (stepK c.pc c.ic c.n c261_2) 1125899906844423 true n2 m) (cn 0 49 [(0, t0), (1, t1), (2, t2), (8, t8), (9, t9), (10, t10)]) H (k261_2 c) 1125899906844423
def b261_2 (c : Cx) (r2 : F6) (n2 : Nat) (t0 t1 t2 t8 t9 t10 : V) (H : List Blk) : X := bnd (trimF true n2 [t0, t1, t2, t8, t9, t10] H) fun H => p (aBin .lss t9 t10) fun x1 => condK x1 ((fun (t0 t1 t2 t8 t9 t10 : V) (H : L) (c : Cx) (r2 : F6) => p (aBin .add t9 t10) fun x2 => p (aToInt .u64 x2) fun x3 => p (aBin .shr x3 (.d (.int .u64 1))) fun x4 => p (aToInt .i64 x4) fun x5 => p (aIx 2 t0 x5) fun x6 => (aLoad true 2 x6).go H fun x7 H => callK c.ic [t2, x7, t1] H fun x8 H => p (aBin .lss x8 (ci 0)) fun x9 => condK x9 (p (aBin .add x5 (ci 1)) fun x10 => r2 t0 t1 t2 t8 x10 t10 H) (r2 t0 t1 t2 t8 t9 x5 H)) t0 t1 t2 t8 t9 t10 H c r2) ((fun (t0 t1 t2 t8 t9 : V) (H : L) (c : Cx) => p (aBin .lss t9 t8) fun x11 => guardK x11 true (fun k => (aMov t2).go H k) H fun x12 H => (fun (t0 t1 t9 x11 x12 : V) (H : L) (c : Cx) => guardK x11 true (fun k => (aMov t0).go H k) H fun x13 H => guardK x11 true (fun k => (aMov t9).go H k) H fun x14 H => guardK x11 true (fun k => (aIx 2 x13 x14).go H k) H fun x15 H => guardK x11 true (fun k => (aLoad true 2 x15).go H k) H fun x16 H => (fun (t1 t9 x11 x12 x16 : V) (H : L) (c : Cx) => guardK x11 true (fun k => (aMov t1).go H k) H fun x17 H => guardK x11 true (callK c.ic [x12, x16, x17] H) H fun x18 H => guardK x11 true (fun k => (aBin .eql x18 (ci 0)).go H k) H fun x19 H => p (aPick x11 x19 cf) fun x20 => some (.tup [t9, x20], H)) t1 t9 x11 x12 x16 H c) t0 t1 t9 x11 x12 H c) t0 t1 t2 t8 t9 H c)
def j261_2 (c : Cx) : Nat → Nat → F6 := recN (fun _ _ _ _ _ _ _ _ => none) fun ih n2 => b261_2 c (ih n2) n2
theorem o261_2 (c : Cx) : d261_2 c = j261_2 c := by
  unfold j261_2
  refine recN_ok (by kernel_rfl) fun m => funext fun n2 => ?_
  funext t0 t1 t2 t8 t9 t10 H
  refine Eq.trans (jnK_eq 1125899906844423 _ _ H _) ?_
  kernel_rfl
def b261_1 (c : Cx) (j2 : Nat → Nat → F6) (t0 t1 t2 : V) (H : List Blk) : X := (aLen 1 t0).go H fun x1 H => j2 c.n H.length t0 t1 t2 x1 (ci 0) x1 H
def j261_1 (c : Cx) : F3 := b261_1 c (j261_2 c)
theorem o261_1 (c : Cx) : d261_1 c = j261_1 c := by
  unfold j261_1; rw [← o261_2]
  funext t0 t1 t2 H
  refine Eq.trans (stepK_jn c.pc c.ic c.n _ H _ 562949953421319 c261_1) ?_
  kernel_rfl
def b261_0 (c : Cx) (j1 : F3) (t0 t1 t2 : V) (H : List Blk) : X := j1 t0 t1 t2 H
def s261 (c : Cx) (args : List V) (H : List Blk) : X := argsK 3 args (b261_0 c (j261_1 c) (getT args 0) (getT args 1) (getT args 2) H)
theorem e261 (pc ic n args H) : runK pc ic n c261 args H = s261 ⟨pc, ic, n⟩ args H := by
  unfold s261; rw [← o261_1]
  kernel_rfl
def L261 : Leaf := ⟨c261, fun pc ic n => s261 ⟨pc, ic, n⟩, e261⟩
theorem kk261 : chkFn Go.Proofs.Tryz.prog ET 261 c261 = true := by kernel_rfl

def c262 : Fn := { fid := 262, np := 2, ntmps := 9, body := (.seq (.reg 1 none [o 2 (.box 0) [.t 0] 0, m 4 (.c (ci 0)) 1]) (.seq (.reg 0 none [o 5 (.fld 0) [.t 2] 0, o 6 (.load false 1) [.t 5] 1, m 7 (.t 1) 2, o 8 (.call 263) [.t 6, .t 7] 3, m 4 (.t 8) 4]) .ret)), res := [.tmp 4] }
def b262_0 (c : Cx) (t0 t1 : V) (H : List Blk) : X := newK 1 H fun q H => (aBox (q + 0) t0).go H fun x1 H => p (aFld 0 x1) fun x2 => (aLoad false 1 x2).go H fun x3 H => p (aCall c.pc 263 [x3, t1]) fun x4 => some (x4, H)
def s262 (c : Cx) (args : List V) (H : List Blk) : X := argsK 2 args (b262_0 c (getT args 0) (getT args 1) H)
theorem e262 (pc ic n args H) : runK pc ic n c262 args H = s262 ⟨pc, ic, n⟩ args H := by
  unfold s262
  kernel_rfl
def L262 : Leaf := ⟨c262, fun pc ic n => s262 ⟨pc, ic, n⟩, e262⟩
theorem kk262 : chkFn Go.Proofs.Tryz.prog ET 262 c262 = true := by kernel_rfl

def c263_1 : C := (.seq (.reg 0 none [m 4 (.c (ci 0)) 0]) (.seq (.reg 0 none [m 7 (.t 0) 0, o 8 (.call 297) [.t 7] 1, m 5 (.t 8) 2]) (.seq (.reg 0 none [m 9 (.t 1) 0, o 10 (.call 297) [.t 9] 1, m 6 (.t 10) 2]) (.seq (.seq (.reg 0 none [m 11 (.t 5) 0]) (.cond (.t 11) (.seq (.seq (.reg 0 none [m 12 (.t 6) 0]) (.cond (.t 12) (.seq (.reg 0 none [m 4 (.c (ci 0)) 0]) .ret) .skip)) (.seq (.reg 0 none [m 4 (.c (ci (-1))) 0]) .ret)) .skip)) (.seq (.seq (.reg 0 none [m 13 (.t 6) 0]) (.cond (.t 13) (.seq (.reg 0 none [m 4 (.c (ci 1)) 0]) .ret) .skip)) (.seq (.seq (.reg 0 none [m 14 (.t 0) 0, m 15 (.t 1) 1, o 16 (.bin .lss) [.t 14, .t 15] 2]) (.cond (.t 16) (.seq (.reg 0 none [m 4 (.c (ci (-1))) 0]) .ret) .skip)) (.seq (.seq (.reg 0 none [m 17 (.t 0) 0, m 18 (.t 1) 1, o 19 (.bin .gtr) [.t 17, .t 18] 2]) (.cond (.t 19) (.seq (.reg 0 none [m 4 (.c (ci 1)) 0]) .ret) .skip)) (.seq (.reg 0 none [m 4 (.c (ci 0)) 0]) .ret))))))))
def c263 : Fn := { fid := 263, np := 2, ntmps := 20, body := (.jn 1048579 c263_1), res := [.tmp 4] }
def d263_1 (c : Cx) (t0 t1 : V) (H : List Blk) : X := stepK c.pc c.ic c.n (.jn 1048579 c263_1) (cn 0 20 [(0, t0), (1, t1)]) H (kTop c263.res)
def b263_1 (c : Cx) (t0 t1 : V) (H : List Blk) : X := p (aCall c.pc 297 [t0]) fun x1 => p (aCall c.pc 297 [t1]) fun x2 => condK x1 (condK x2 (some ((ci 0), H)) (some ((ci (-1)), H))) ((fun (t0 t1 x2 : V) (H : L) => condK x2 (some ((ci 1), H)) (p (aBin .lss t0 t1) fun x3 => condK x3 (some ((ci (-1)), H)) (p (aBin .gtr t0 t1) fun x4 => condK x4 (some ((ci 1), H)) (some ((ci 0), H))))) t0 t1 x2 H)
def j263_1 (c : Cx) : F2 := b263_1 c
theorem o263_1 (c : Cx) : d263_1 c = j263_1 c := by
  unfold j263_1
  funext t0 t1 H
  refine Eq.trans (stepK_jn c.pc c.ic c.n _ H _ 1048579 c263_1) ?_
  kernel_rfl
def b263_0 (c : Cx) (j1 : F2) (t0 t1 : V) (H : List Blk) : X := j1 t0 t1 H
def s263 (c : Cx) (args : List V) (H : List Blk) : X := argsK 2 args (b263_0 c (j263_1 c) (getT args 0) (getT args 1) H)
theorem e263 (pc ic n args H) : runK pc ic n c263 args H = s263 ⟨pc, ic, n⟩ args H := by
  unfold s263; rw [← o263_1]
  kernel_rfl
def L263 : Leaf := ⟨c263, fun pc ic n => s263 ⟨pc, ic, n⟩, e263⟩
theorem kk263 : chkFn Go.Proofs.Tryz.prog ET 263 c263 = true := by kernel_rfl

def c265 : Fn := { fid := 265, np := 3, ntmps := 33, body := (.seq (.reg 0 none [m 6 (.c .nilS) 0]) (.seq (.reg 0 none [m 8 (.t 0) 0, m 9 (.t 1) 1, m 10 (.t 2) 2, m 11 (.t 0) 3, o 12 (.len 1) [.t 11] 4, o 13 (.sub 2 true true true) [.t 8, .t 9, .t 10, .t 12] 5]) (.seq (.seq (.reg 0 none [m 14 (.t 1) 0, m 15 (.t 2) 1, o 16 (.bin .eql) [.t 14, .t 15] 2]) (.cond (.t 16) (.seq (.reg 0 none [m 17 (.t 0) 0, m 6 (.t 17) 1]) .ret) .skip)) (.seq (.reg 0 none [m 18 (.t 0) 0, o 19 (.len 1) [.t 18] 1, m 7 (.t 19) 2]) (.seq (.reg 1 (some ⟨true, [], 33⟩) [m 20 (.t 0) 0, m 21 (.t 1) 1, ⟨some 22, .sub 2 false true false, [.t 20, .t 21], none, 3, 2⟩, m 23 (.t 0) 3, m 24 (.t 2) 4, ⟨some 25, .sub 2 true false false, [.t 23, .t 24], none, 24, 5⟩, ⟨some 26, .appA 0 2 24, [.t 22, .t 25], none, 63, 6⟩, ⟨some 0, .mov, [.t 26], none, 127, 7⟩]) (.seq (.reg 0 none [m 27 (.t 0) 0, m 28 (.t 0) 1, o 29 (.len 1) [.t 28] 2, m 30 (.t 7) 3, o 31 (.sub 2 true true false) [.t 27, .t 29, .t 30] 4, ⟨none, .clear 2 z6, [.t 31], none, 0, 5⟩]) (.seq (.reg 0 none [m 32 (.t 0) 0, m 6 (.t 32) 1]) .ret))))))), res := [.tmp 6] }
def L265 : Leaf := coldL c265
theorem kk265 : chkFn Go.Proofs.Tryz.prog ET 265 c265 = true := by kernel_rfl

def c266 : Fn := { fid := 266, np := 3, ntmps := 33, body := (.seq (.reg 0 none [m 6 (.c .nilS) 0]) (.seq (.reg 0 none [m 8 (.t 0) 0, m 9 (.t 1) 1, m 10 (.t 2) 2, m 11 (.t 0) 3, o 12 (.len 1) [.t 11] 4, o 13 (.sub 8 true true true) [.t 8, .t 9, .t 10, .t 12] 5]) (.seq (.seq (.reg 0 none [m 14 (.t 1) 0, m 15 (.t 2) 1, o 16 (.bin .eql) [.t 14, .t 15] 2]) (.cond (.t 16) (.seq (.reg 0 none [m 17 (.t 0) 0, m 6 (.t 17) 1]) .ret) .skip)) (.seq (.reg 0 none [m 18 (.t 0) 0, o 19 (.len 1) [.t 18] 1, m 7 (.t 19) 2]) (.seq (.reg 1 (some ⟨true, [], 33⟩) [m 20 (.t 0) 0, m 21 (.t 1) 1, ⟨some 22, .sub 8 false true false, [.t 20, .t 21], none, 3, 2⟩, m 23 (.t 0) 3, m 24 (.t 2) 4, ⟨some 25, .sub 8 true false false, [.t 23, .t 24], none, 24, 5⟩, ⟨some 26, .appA 0 8 104, [.t 22, .t 25], none, 63, 6⟩, ⟨some 0, .mov, [.t 26], none, 127, 7⟩]) (.seq (.reg 0 none [m 27 (.t 0) 0, m 28 (.t 0) 1, o 29 (.len 1) [.t 28] 2, m 30 (.t 7) 3, o 31 (.sub 8 true true false) [.t 27, .t 29, .t 30] 4, ⟨none, .clear 8 z1, [.t 31], none, 0, 5⟩]) (.seq (.reg 0 none [m 32 (.t 0) 0, m 6 (.t 32) 1]) .ret))))))), res := [.tmp 6] }
def L266 : Leaf := coldL c266
theorem kk266 : chkFn Go.Proofs.Tryz.prog ET 266 c266 = true := by kernel_rfl

def c267_2 : C := (.seq (.seq (.reg 0 none [m 31 (.t 17) 0, o 32 (.bin .neq) [.t 31, .c (ci 0)] 1]) (.cond (.t 32) (.seq (.reg 0 none [o 33 (.load true 7) [.t 6] 0, m 34 (.t 17) 1, ⟨none, .store 7, [.t 12, .t 33], none, 0, 2⟩, m 13 (.c (ci 0)) 3, m 14 (.t 34) 4]) .ret) .skip)) (.seq (.reg 0 none [o 35 (.load true 7) [.t 6] 0, m 36 (.t 1) 1, o 37 (.load true 4) [.t 15] 2, o 38 (.call 302) [.t 35, .t 36, .t 37] 3, ⟨none, .store 7, [.t 6, .t 38], none, 0, 4⟩]) (.seq (.reg 0 none [o 39 (.fld 3) [.t 6] 0, o 40 (.load true 4) [.t 39] 1, m 41 (.t 1) 2, m 42 (.t 16) 3, o 43 (.build [(ci 0), (ci 0)] [(0, 1), (1, 1)]) [.t 41, .t 42] 4, m 44 (.t 5) 5, o 45 (.call 303) [.t 40, .t 43, .t 44] 6, o 46 (.fld 3) [.t 6] 7, ⟨none, .store 4, [.t 46, .t 45], none, 0, 8⟩]) (.seq (.reg 0 none [o 47 (.load true 7) [.t 6] 0, m 48 (.t 16) 1, ⟨none, .store 7, [.t 12, .t 47], none, 0, 2⟩, m 13 (.t 48) 3, m 14 (.c (ci 0)) 4]) .ret))))
def l267_0 : List O := [o 19 (.fld 2) [.t 6] 0, ⟨some 20, .load false 1, [.t 19], none, 1, 1⟩, m 21 (.t 1) 2, ⟨some 22, .ix 4, [.t 20, .t 21], none, 7, 3⟩, ⟨some 23, .load true 4, [.t 22], none, 15, 4⟩, m 24 (.t 2) 5, m 25 (.t 3) 6, o 26 (.load true 8) [.t 10] 7, ⟨some 27, .call 89, [.t 23, .t 24, .t 25, .t 26], none, 255, 8⟩, ⟨some 18, .mov, [.t 27], none, 511, 9⟩, ⟨some 28, .ext 0, [.t 18], none, 1023, 10⟩, ⟨some 29, .ext 1, [.t 18], none, 1023, 11⟩, ⟨some 30, .ext 2, [.t 18], none, 1023, 12⟩, o 15 (.alloc 0 z0) [] 13, ⟨none, .store 4, [.t 15, .t 28], none, 10239, 14⟩, ⟨some 16, .mov, [.t 29], none, 28671, 15⟩, ⟨some 17, .mov, [.t 30], none, 65535, 16⟩]
def c267_1 : C := (.seq (.reg 3 none [o 6 (.box 0) [.t 0] 0, o 10 (.box 1) [.t 4] 1, o 12 (.alloc 2 z14) [] 2, m 13 (.c (ci 0)) 3, m 14 (.c (ci 0)) 4]) (.seq (.reg 1 (some ⟨false, [0, 1, 2, 3, 4, 5, 6, 7, 8, 9, 10, 13, 14, 11, 15, 12, 16], 49⟩) l267_0) (.jn 1125899907076194 c267_2)))
def c267 : Fn := { fid := 267, np := 6, ntmps := 49, body := (.jn 562949953421375 c267_1), res := [.cell 12 true 7, .tmp 13, .tmp 14] }
def L267 : Leaf := coldL c267
theorem kk267 : chkFn Go.Proofs.Tryz.prog ET 267 c267 = true := by kernel_rfl

def c268_1 : C := (.seq (.reg 1 none [o 2 (.box 0) [.t 0] 0, m 4 (.c cf) 1]) (.seq (.reg 0 none [m 5 (.t 1) 0, o 6 (.bin .geq) [.t 5, .c (ci 0)] 1, m 7 (.t 6) 2, ⟨some 8, .mov, [.t 1], some (7, true), 0, 3⟩, ⟨some 9, .fld 0, [.t 2], some (7, true), 0, 4⟩, ⟨some 10, .load false 1, [.t 9], some (7, true), 0, 5⟩, ⟨some 11, .len 1, [.t 10], some (7, true), 0, 6⟩, ⟨some 12, .bin .lss, [.t 8, .t 11], some (7, true), 0, 7⟩, o 13 .pick [.t 7, .t 12, .c cf] 8, m 14 (.t 13) 9, ⟨some 15, .fld 0, [.t 2], some (14, true), 0, 10⟩, ⟨some 16, .load false 1, [.t 15], some (14, true), 0, 11⟩, ⟨some 17, .mov, [.t 1], some (14, true), 0, 12⟩, ⟨some 18, .ix 1, [.t 16, .t 17], some (14, true), 0, 13⟩, ⟨some 19, .load false 1, [.t 18], some (14, true), 0, 14⟩, ⟨some 20, .bin .eql, [.t 19, .c (ci 1)], some (14, true), 0, 15⟩, ⟨some 21, .mov, [.t 20], some (14, true), 0, 16⟩, ⟨some 22, .fld 0, [.t 2], some (21, false), 0, 17⟩, ⟨some 23, .load false 1, [.t 22], some (21, false), 0, 18⟩, ⟨some 24, .mov, [.t 1], some (21, false), 0, 19⟩, ⟨some 25, .ix 1, [.t 23, .t 24], some (21, false), 0, 20⟩, ⟨some 26, .load false 1, [.t 25], some (21, false), 0, 21⟩, ⟨some 27, .bin .eql, [.t 26, .c (ci 3)], some (21, false), 0, 22⟩, ⟨some 28, .pick, [.t 21, .c ct, .t 27], some (14, true), 0, 23⟩, o 29 .pick [.t 14, .t 28, .c cf] 24, m 4 (.t 29) 25]) .ret))
def c268 : Fn := { fid := 268, np := 2, ntmps := 30, body := (.jn 1073741827 c268_1), res := [.tmp 4] }
def L268 : Leaf := coldL c268
theorem kk268 : chkFn Go.Proofs.Tryz.prog ET 268 c268 = true := by kernel_rfl

def c269 : Fn := { fid := 269, np := 2, ntmps := 8, body := (.seq (.reg 1 none [o 2 (.box 0) [.t 0] 0, m 4 (.c cf) 1]) (.seq (.reg 0 none [o 5 (.load true 4) [.t 2] 0, m 6 (.t 1) 1, o 7 (.call 281) [.t 5, .t 6, .c (.d (.str [46, 119, 104, 46, 46, 119, 104, 46, 46, 111, 112, 113]))] 2, m 4 (.t 7) 3]) .ret)), res := [.tmp 4] }
def L269 : Leaf := coldL c269
theorem kk269 : chkFn Go.Proofs.Tryz.prog ET 269 c269 = true := by kernel_rfl

def c270 : Fn := { fid := 270, np := 2, ntmps := 18, body := (.seq (.reg 0 none [m 4 (.c cf) 0]) (.seq (.reg 0 none [m 5 (.t 0) 0, o 6 (.len 0) [.t 5] 1, m 7 (.t 1) 2, o 8 (.len 0) [.t 7] 3, o 9 (.bin .geq) [.t 6, .t 8] 4, m 10 (.t 9) 5, ⟨some 11, .mov, [.t 0], some (10, true), 0, 6⟩, ⟨some 12, .mov, [.t 1], some (10, true), 0, 7⟩, ⟨some 13, .len 0, [.t 12], some (10, true), 0, 8⟩, ⟨some 14, .subStr false true, [.t 11, .t 13], some (10, true), 0, 9⟩, ⟨some 15, .mov, [.t 1], some (10, true), 0, 10⟩, ⟨some 16, .bin .eql, [.t 14, .t 15], some (10, true), 0, 11⟩, o 17 .pick [.t 10, .t 16, .c cf] 12, m 4 (.t 17) 13]) .ret)), res := [.tmp 4] }
def L270 : Leaf := coldL c270
theorem kk270 : chkFn Go.Proofs.Tryz.prog ET 270 c270 = true := by kernel_rfl

def c271_2 : C := (.seq (.reg 0 none [o 9 (.bin .lss) [.t 8, .t 7] 0]) (.seq (.cond (.t 9) .skip (.exit 0)) (.seq (.blk 1 (.seq (.reg 0 none [m 10 (.t 8) 0, m 5 (.t 10) 1]) (.seq (.reg 0 none [m 11 (.t 1) 0, m 12 (.t 0) 1, m 13 (.t 5) 2, o 14 (.ix 1) [.t 12, .t 13] 3, o 15 (.load false 1) [.t 14] 4, o 16 (.bin .eql) [.t 11, .t 15] 5]) (.cond (.t 16) (.seq (.reg 0 none [m 17 (.t 5) 0, m 4 (.t 17) 1]) .ret) .skip)))) (.reg 0 none [o 18 (.bin .add) [.t 8, .c (ci 1)] 0, m 8 (.t 18) 1]))))
def c271_s1 : C := (.seq (.reg 0 none [m 4 (.c (ci (-1))) 0]) .ret)
def c271_1 : C := (.seq (.reg 0 none [m 4 (.c (ci 0)) 0]) (.seq (.seq (.reg 0 none [m 6 (.t 0) 0, o 7 (.len 1) [.t 6] 1, m 8 (.c (ci 0)) 2]) (.blk 0 (.loop 1048963 false c271_2))) c271_s1))
def c271 : Fn := { fid := 271, np := 2, ntmps := 19, body := (.jn 524291 c271_1), res := [.tmp 4] }
def L271 : Leaf := coldL c271
theorem kk271 : chkFn Go.Proofs.Tryz.prog ET 271 c271 = true := by kernel_rfl

def c272_2 : C := (.seq (.reg 0 none [o 12 (.bin .lss) [.t 11, .t 10] 0]) (.seq (.cond (.t 12) .skip (.exit 0)) (.seq (.blk 1 (.seq (.reg 1 none [o 13 (.ix 2) [.t 9, .t 11] 0, o 14 (.load true 2) [.t 13] 1, o 8 (.alloc 0 [(ci 0), (ci 0)]) [] 2, ⟨none, .store 2, [.t 8, .t 14], none, 0, 3⟩]) (.seq (.reg 0 (some ⟨true, [], 26⟩) [o 15 (.load true 7) [.t 3] 0, o 16 (.load true 2) [.t 8] 1, m 17 (.t 2) 2, ⟨some 18, .call 100, [.t 17], none, 4, 3⟩, ⟨some 19, .call 251, [.t 15, .t 16, .t 18], none, 15, 4⟩]) (.cond (.t 19) (.seq (.reg 0 none [o 20 (.fld 0) [.t 8] 0, o 21 (.load false 1) [.t 20] 1, m 6 (.t 21) 2]) .ret) .skip)))) (.reg 0 none [o 22 (.bin .add) [.t 11, .c (ci 1)] 0, m 11 (.t 22) 1]))))
def c272_s1 : C := (.seq (.reg 0 none [o 23 (.fld 2) [.t 3] 0, o 24 (.load false 1) [.t 23] 1, o 25 (.len 1) [.t 24] 2, m 6 (.t 25) 3]) .ret)
def c272_1 : C := (.seq (.reg 1 none [o 3 (.box 0) [.t 0] 0, m 6 (.c (ci 0)) 1]) (.seq (.seq (.reg 0 none [m 9 (.t 1) 0, o 10 (.len 1) [.t 9] 1, m 11 (.c (ci 0)) 2]) (.blk 0 (.loop 134221324 true c272_2))) c272_s1))
def c272 : Fn := { fid := 272, np := 3, ntmps := 26, body := (.jn 67108871 c272_1), res := [.tmp 6] }
def L272 : Leaf := coldL c272
theorem kk272 : chkFn Go.Proofs.Tryz.prog ET 272 c272 = true := by kernel_rfl

def c273 : Fn := { fid := 273, np := 2, ntmps := 9, body := (.seq (.reg 1 none [o 2 (.box 0) [.t 0] 0, m 4 (.c (ci 0)) 1]) (.seq (.reg 0 none [o 5 (.fld 0) [.t 2] 0, o 6 (.load false 1) [.t 5] 1, m 7 (.t 1) 2, o 8 (.call 165) [.t 6, .t 7] 3, m 4 (.t 8) 4]) .ret)), res := [.tmp 4] }
def b273_0 (c : Cx) (t0 t1 : V) (H : List Blk) : X := newK 1 H fun q H => (aBox (q + 0) t0).go H fun x1 H => p (aFld 0 x1) fun x2 => (aLoad false 1 x2).go H fun x3 H => p (aCall c.pc 165 [x3, t1]) fun x4 => some (x4, H)
def s273 (c : Cx) (args : List V) (H : List Blk) : X := argsK 2 args (b273_0 c (getT args 0) (getT args 1) H)
theorem e273 (pc ic n args H) : runK pc ic n c273 args H = s273 ⟨pc, ic, n⟩ args H := by
  unfold s273
  kernel_rfl
def L273 : Leaf := ⟨c273, fun pc ic n => s273 ⟨pc, ic, n⟩, e273⟩
theorem kk273 : chkFn Go.Proofs.Tryz.prog ET 273 c273 = true := by kernel_rfl

def c274_5 : C := (.seq (.seq (.reg 0 (some ⟨true, [], 134⟩) [m 73 (.t 1) 0, ⟨some 74, .bin .gtr, [.t 73, .c (ci 0)], none, 1, 1⟩, ⟨some 75, .mov, [.t 74], none, 3, 2⟩, ⟨some 76, .mov, [.t 0], some (75, true), 7, 3⟩, ⟨some 77, .mov, [.t 1], some (75, true), 7, 4⟩, ⟨some 78, .bin .sub, [.t 77, .c (ci 1)], some (75, true), 23, 5⟩, ⟨some 79, .ix 1, [.t 76, .t 78], some (75, true), 63, 6⟩, ⟨some 80, .load false 1, [.t 79], some (75, true), 127, 7⟩, ⟨some 81, .mov, [.t 0], some (75, true), 7, 8⟩, ⟨some 82, .mov, [.t 11], some (75, true), 7, 9⟩, ⟨some 83, .ix 1, [.t 81, .t 82], some (75, true), 775, 10⟩, ⟨some 84, .load false 1, [.t 83], some (75, true), 1799, 11⟩, ⟨some 85, .call 310, [.t 80, .t 84], some (75, true), 4095, 12⟩, ⟨some 86, .un .not, [.t 85], some (75, true), 8191, 13⟩, ⟨some 87, .pick, [.t 75, .t 86, .c cf], none, 16383, 14⟩]) (.cond (.t 87) (.seq (.reg 0 none [m 88 (.t 0) 0, m 89 (.t 1) 1, m 90 (.t 2) 2, m 91 (.t 11) 3, o 92 (.icall 311) [.t 88, .t 89, .t 90, .t 91] 4, m 13 (.t 92) 5]) (.seq (.reg 0 none [m 93 (.t 13) 0, m 1 (.t 93) 1]) (.exit 1))) .skip)) (.seq (.reg 0 none [m 95 (.t 0) 0, m 96 (.t 1) 1, m 97 (.t 2) 2, m 98 (.t 11) 3, o 99 (.icall 312) [.t 95, .t 96, .t 97, .t 98] 4, m 94 (.t 99) 5, o 100 (.ext 0) [.t 94] 6, o 101 (.ext 1) [.t 94] 7, m 14 (.t 100) 8, m 15 (.t 101) 9]) (.seq (.reg 0 none [m 102 (.t 15) 0, m 9 (.t 102) 1]) (.seq (.reg 0 none [m 103 (.t 14) 0, m 104 (.t 1) 1, o 105 (.bin .sub) [.t 103, .t 104] 2, m 106 (.t 2) 3, m 107 (.t 14) 4, o 108 (.bin .sub) [.t 106, .t 107] 5, m 16 (.t 105) 6, m 17 (.t 108) 7]) (.seq (.reg 0 none [m 109 (.t 10) 0, o 110 (.bin .quo) [.t 109, .c (ci 8)] 1, m 18 (.t 110) 2]) (.seq (.reg 0 none [m 111 (.t 16) 0, m 112 (.t 17) 1, o 113 (.bin .lss) [.t 111, .t 112] 2]) (.cond (.t 113) (.seq (.reg 0 none [m 114 (.t 16) 0, m 115 (.t 18) 1, o 116 (.bin .geq) [.t 114, .t 115] 2, m 8 (.t 116) 3]) (.seq (.reg 0 none [m 117 (.t 0) 0, m 118 (.t 1) 1, m 119 (.t 14) 2, m 120 (.t 3) 3, o 121 (.icall 274) [.t 117, .t 118, .t 119, .t 120] 4]) (.reg 0 none [m 122 (.t 14) 0, o 123 (.bin .add) [.t 122, .c (ci 1)] 1, m 1 (.t 123) 2]))) (.seq (.reg 0 none [m 124 (.t 17) 0, m 125 (.t 18) 1, o 126 (.bin .geq) [.t 124, .t 125] 2, m 8 (.t 126) 3]) (.seq (.reg 0 none [m 127 (.t 0) 0, m 128 (.t 14) 1, o 129 (.bin .add) [.t 128, .c (ci 1)] 2, m 130 (.t 2) 3, m 131 (.t 3) 4, o 132 (.icall 274) [.t 127, .t 129, .t 130, .t 131] 5]) (.reg 0 none [m 133 (.t 14) 0, m 2 (.t 133) 1]))))))))))
def c274_4 : C := (.seq (.seq (.reg 0 none [m 61 (.t 8) 0, m 62 (.t 61) 1, ⟨some 63, .mov, [.t 9], some (62, true), 0, 2⟩, o 64 .pick [.t 62, .t 63, .c cf] 3, m 65 (.t 64) 4, ⟨some 66, .mov, [.t 12], some (65, true), 0, 5⟩, ⟨some 67, .bin .eql, [.t 66, .c (ci 1)], some (65, true), 0, 6⟩, o 68 .pick [.t 65, .t 67, .c cf] 7]) (.cond (.t 68) (.seq (.reg 0 none [m 69 (.t 0) 0, m 70 (.t 1) 1, m 71 (.t 2) 2, o 72 (.icall 309) [.t 69, .t 70, .t 71] 3]) (.cond (.t 72) .ret .skip)) .skip)) (.jn 108890357414700308308279874378165827669775 c274_5))
def c274_3 : C := (.seq (.reg 0 none [m 43 (.t 0) 0, m 44 (.t 1) 1, m 45 (.t 2) 2, o 46 (.icall 307) [.t 43, .t 44, .t 45] 3, m 42 (.t 46) 4, o 47 (.ext 0) [.t 42] 5, o 48 (.ext 1) [.t 42] 6, m 11 (.t 47) 7, m 12 (.t 48) 8]) (.seq (.seq (.reg 0 none [m 49 (.t 12) 0, o 50 (.bin .eql) [.t 49, .c (ci 2)] 1]) (.cond (.t 50) (.seq (.reg 0 none [m 51 (.t 0) 0, m 52 (.t 1) 1, m 53 (.t 2) 2, o 54 (.icall 308) [.t 51, .t 52, .t 53] 3]) (.seq (.reg 0 none [m 55 (.t 2) 0, o 56 (.bin .sub) [.t 55, .c (ci 1)] 1, m 57 (.t 11) 2, m 58 (.t 1) 3, o 59 (.bin .sub) [.t 57, .t 58] 4, o 60 (.bin .sub) [.t 56, .t 59] 5, m 11 (.t 60) 6]) (.reg 0 none [m 12 (.c (ci 1)) 0]))) .skip)) (.jn 87112285931760246646623899502532662140687 c274_4)))
def c274_2 : C := (.blk 1 (.seq (.reg 0 none [m 19 (.t 2) 0, m 20 (.t 1) 1, o 21 (.bin .sub) [.t 19, .t 20] 2, m 10 (.t 21) 3]) (.seq (.seq (.reg 0 none [m 22 (.t 10) 0, o 23 (.bin .leq) [.t 22, .c (ci 12)] 1]) (.cond (.t 23) (.seq (.reg 0 none [m 24 (.t 0) 0, m 25 (.t 1) 1, m 26 (.t 2) 2, o 27 (.icall 304) [.t 24, .t 25, .t 26] 3]) .ret) .skip)) (.seq (.seq (.reg 0 none [m 28 (.t 3) 0, o 29 (.bin .eql) [.t 28, .c (ci 0)] 1]) (.cond (.t 29) (.seq (.reg 0 none [m 30 (.t 0) 0, m 31 (.t 1) 1, m 32 (.t 2) 2, o 33 (.icall 305) [.t 30, .t 31, .t 32] 3]) .ret) .skip)) (.seq (.seq (.reg 0 none [m 34 (.t 8) 0, o 35 (.un .not) [.t 34] 1]) (.cond (.t 35) (.seq (.reg 0 none [m 36 (.t 0) 0, m 37 (.t 1) 1, m 38 (.t 2) 2, o 39 (.icall 306) [.t 36, .t 37, .t 38] 3]) (.reg 0 none [m 40 (.t 3) 0, o 41 (.bin .sub) [.t 40, .c (ci 1)] 1, m 3 (.t 41) 2])) .skip)) (.jn 65334214448820184984967924626899496601359 c274_3))))))
def c274_1 : C := (.seq (.reg 0 none [m 8 (.c ct) 0]) (.seq (.reg 0 none [m 9 (.c ct) 0]) (.blk 0 (.loop 43556142965880123323311949751266331067151 false c274_2))))
def c274 : Fn := { fid := 274, np := 4, ntmps := 134, body := (.jn 21778071482940061661655974875633165533199 c274_1), res := [] }
def L274 : Leaf := coldL c274
theorem kk274 : chkFn Go.Proofs.Tryz.prog ET 274 c274 = true := by kernel_rfl

def c275 : Fn := { fid := 275, np := 1, ntmps := 8, body := (.seq (.reg 0 none [m 2 (.c (ci 0)) 0]) (.seq (.cond (.c cf) (.seq (.reg 0 none [m 3 (.t 0) 0, o 4 (.toInt .u32) [.t 3] 1, o 5 (.call 313) [.t 4] 2, m 2 (.t 5) 3]) .ret) .skip) (.seq (.reg 0 none [m 6 (.t 0) 0, o 7 (.call 314) [.t 6] 1, m 2 (.t 7) 2]) .ret))), res := [.tmp 2] }
def L275 : Leaf := coldL c275
theorem kk275 : chkFn Go.Proofs.Tryz.prog ET 275 c275 = true := by kernel_rfl

def c281_1 : C := (.seq (.reg 1 none [o 3 (.box 0) [.t 0] 0, m 6 (.c cf) 1]) (.seq (.reg 1 none [o 12 (.load true 4) [.t 3] 0, m 13 (.t 1) 1, o 14 (.call 16) [.t 12, .t 13] 2, m 11 (.t 14) 3, o 15 (.ext 0) [.t 11] 4, o 16 (.ext 1) [.t 11] 5, o 7 (.alloc 0 z1) [] 6, ⟨none, .store 8, [.t 7, .t 15], none, 0, 7⟩, m 8 (.t 16) 8]) (.seq (.reg 0 none [o 18 (.load true 8) [.t 7] 0, m 19 (.t 2) 1, o 20 (.call 44) [.t 18, .t 19] 2, m 17 (.t 20) 3, o 21 (.ext 0) [.t 17] 4, o 22 (.ext 1) [.t 17] 5, m 9 (.t 21) 6, m 10 (.t 22) 7]) (.seq (.reg 0 none [m 23 (.t 10) 0, m 24 (.t 23) 1, ⟨some 25, .fld 1, [.t 7], some (24, true), 0, 2⟩, ⟨some 26, .load false 1, [.t 25], some (24, true), 0, 3⟩, ⟨some 27, .bin .eql, [.t 26, .c (ci 2)], some (24, true), 0, 4⟩, o 28 .pick [.t 24, .t 27, .c cf] 5, m 6 (.t 28) 6]) .ret))))
def c281 : Fn := { fid := 281, np := 3, ntmps := 29, body := (.jn 536870919 c281_1), res := [.tmp 6] }
def L281 : Leaf := coldL c281
theorem kk281 : chkFn Go.Proofs.Tryz.prog ET 281 c281 = true := by kernel_rfl

def c283_2 : C := (.seq (.seq (.reg 0 none [m 6 (.t 5) 0, o 7 (.fld 1) [.t 2] 1, o 8 (.load false 1) [.t 7] 2, o 9 (.len 1) [.t 8] 3, o 10 (.bin .lss) [.t 6, .t 9] 4]) (.cond (.t 10) .skip (.exit 0))) (.seq (.blk 1 (.seq (.reg 0 none [o 13 (.fld 1) [.t 2] 0, o 14 (.load false 1) [.t 13] 1, m 15 (.t 5) 2, o 16 (.ix 2) [.t 14, .t 15] 3, o 17 (.fld 0) [.t 16] 4, o 18 (.load false 1) [.t 17] 5, m 19 (.t 1) 6, o 20 (.bin .eql) [.t 18, .t 19] 7]) (.cond (.t 20) (.seq (.reg 0 none [m 21 (.t 5) 0, m 4 (.t 21) 1]) .ret) .skip))) (.reg 0 none [m 11 (.t 5) 0, o 12 (.bin .add) [.t 11, .c (ci 1)] 1, m 5 (.t 12) 2])))
def c283_s1 : C := (.seq (.reg 0 none [m 4 (.c (ci (-1))) 0]) .ret)
def c283_1 : C := (.seq (.reg 1 none [o 2 (.box 0) [.t 0] 0, m 4 (.c (ci 0)) 1]) (.seq (.seq (.reg 0 none [m 5 (.c (ci 0)) 0]) (.blk 0 (.loop 8388646 false c283_2))) c283_s1))
def c283 : Fn := { fid := 283, np := 2, ntmps := 22, body := (.jn 4194307 c283_1), res := [.tmp 4] }
def L283 : Leaf := coldL c283
theorem kk283 : chkFn Go.Proofs.Tryz.prog ET 283 c283 = true := by kernel_rfl

def c285_3 : C := (.seq (.seq (.reg 0 none [m 64 (.t 5) 0, o 65 (.bin .lss) [.t 64, .c (ci 16)] 1]) (.cond (.t 65) .skip (.exit 2))) (.seq (.blk 3 (.seq (.reg 0 none [o 68 (.fld 0) [.t 4] 0, o 69 (.load false 1) [.t 68] 1, o 70 (.bin .mul) [.t 69, .c (ci 16)] 2, m 71 (.t 5) 3, o 72 (.bin .add) [.t 70, .t 71] 4, o 73 (.fld 0) [.t 1] 5, o 74 (.load false 1) [.t 73] 6, o 75 (.bin .geq) [.t 72, .t 74] 7, m 76 (.t 75) 8, ⟨some 77, .fld 1, [.t 4], some (76, true), 0, 9⟩, ⟨some 78, .load false 1, [.t 77], some (76, true), 0, 10⟩, ⟨some 79, .mov, [.t 5], some (76, true), 0, 11⟩, ⟨some 80, .ix 1, [.t 78, .t 79], some (76, true), 0, 12⟩, ⟨some 81, .load false 1, [.t 80], some (76, true), 0, 13⟩, ⟨some 82, .bin .neq, [.t 81, .c (.d (.int .u8 0))], some (76, true), 0, 14⟩, o 83 .pick [.t 76, .t 82, .c cf] 15]) (.cond (.t 83) (.seq (.reg 0 none [m 2 (.c cf) 0]) .ret) .skip))) (.reg 0 none [m 66 (.t 5) 0, o 67 (.bin .add) [.t 66, .c (ci 1)] 1, m 5 (.t 67) 2])))
def c285_s1 : C := (.reg 0 none [m 19 (.t 3) 0, o 20 (.bin .add) [.t 19, .c (ci 1)] 1, m 3 (.t 20) 2])
def c285_2 : C := (.seq (.seq (.reg 0 none [m 14 (.t 3) 0, o 15 (.fld 1) [.t 1] 1, o 16 (.load false 1) [.t 15] 2, o 17 (.len 1) [.t 16] 3, o 18 (.bin .lss) [.t 14, .t 17] 4]) (.cond (.t 18) .skip (.exit 0))) (.seq (.blk 1 (.seq (.reg 1 none [o 21 (.fld 1) [.t 1] 0, o 22 (.load false 1) [.t 21] 1, m 23 (.t 3) 2, o 24 (.ix 2) [.t 22, .t 23] 3, o 25 (.load true 2) [.t 24] 4, o 4 (.alloc 0 [(ci 0), .nilS]) [] 5, ⟨none, .store 2, [.t 4, .t 25], none, 0, 6⟩]) (.seq (.seq (.reg 0 (some ⟨true, [], 84⟩) [o 26 (.fld 0) [.t 4] 0, ⟨some 27, .load false 1, [.t 26], none, 1, 1⟩, ⟨some 28, .bin .lss, [.t 27, .c (ci 0)], none, 3, 2⟩, ⟨some 29, .mov, [.t 28], none, 7, 3⟩, ⟨some 30, .fld 0, [.t 4], some (29, false), 15, 4⟩, ⟨some 31, .load false 1, [.t 30], some (29, false), 31, 5⟩, ⟨some 32, .bin .geq, [.t 31, .c (ci 32768)], some (29, false), 63, 6⟩, ⟨some 33, .pick, [.t 29, .c ct, .t 32], none, 127, 7⟩, ⟨some 34, .mov, [.t 33], none, 255, 8⟩, ⟨some 35, .fld 0, [.t 4], some (34, false), 511, 9⟩, ⟨some 36, .load false 1, [.t 35], some (34, false), 1023, 10⟩, ⟨some 37, .bin .mul, [.t 36, .c (ci 16)], some (34, false), 2047, 11⟩, ⟨some 38, .fld 0, [.t 1], some (34, false), 511, 12⟩, ⟨some 39, .load false 1, [.t 38], some (34, false), 4607, 13⟩, ⟨some 40, .bin .geq, [.t 37, .t 39], some (34, false), 16383, 14⟩, ⟨some 41, .pick, [.t 34, .c ct, .t 40], none, 32767, 15⟩, ⟨some 42, .mov, [.t 41], none, 65535, 16⟩, ⟨some 43, .fld 1, [.t 4], some (42, false), 131071, 17⟩, ⟨some 44, .load false 1, [.t 43], some (42, false), 262143, 18⟩, ⟨some 45, .len 1, [.t 44], some (42, false), 524287, 19⟩, ⟨some 46, .bin .neq, [.t 45, .c (ci 16)], some (42, false), 1048575, 20⟩, ⟨some 47, .pick, [.t 42, .c ct, .t 46], none, 2097151, 21⟩, ⟨some 48, .mov, [.t 47], none, 4194303, 22⟩, ⟨some 49, .mov, [.t 3], some (48, false), 8388607, 23⟩, ⟨some 50, .bin .gtr, [.t 49, .c (ci 0)], some (48, false), 16777215, 24⟩, ⟨some 51, .mov, [.t 50], some (48, false), 33554431, 25⟩, ⟨some 52, .fld 0, [.t 4], some (51, true), 67108863, 26⟩, ⟨some 53, .load false 1, [.t 52], some (51, true), 134217727, 27⟩, ⟨some 54, .fld 1, [.t 1], some (51, true), 67108863, 28⟩, ⟨some 55, .load false 1, [.t 54], some (51, true), 335544319, 29⟩, ⟨some 56, .mov, [.t 3], some (51, true), 67108863, 30⟩, ⟨some 57, .bin .sub, [.t 56, .c (ci 1)], some (51, true), 1140850687, 31⟩, ⟨some 58, .ix 2, [.t 55, .t 57], some (51, true), 4093640703, 32⟩, ⟨some 59, .fld 0, [.t 58], some (51, true), 8388607999, 33⟩, ⟨some 60, .load false 1, [.t 59], some (51, true), 16978542591, 34⟩, ⟨some 61, .bin .leq, [.t 53, .t 60], some (51, true), 34359738367, 35⟩, ⟨some 62, .pick, [.t 51, .t 61, .c cf], some (48, false), 68719476735, 36⟩, ⟨some 63, .pick, [.t 48, .c ct, .t 62], none, 137438953471, 37⟩]) (.cond (.t 63) (.seq (.reg 0 none [m 2 (.c cf) 0]) .ret) .skip)) (.seq (.reg 0 none [m 5 (.c (ci 0)) 0]) (.blk 2 (.loop 58028439341502200385896506 false c285_3)))))) c285_s1))
def c285_s2 : C := (.seq (.reg 0 none [m 2 (.c ct) 0]) .ret)
def c285_1 : C := (.seq (.reg 1 none [o 1 (.box 0) [.t 0] 0, m 2 (.c cf) 1]) (.seq (.seq (.reg 0 none [o 6 (.fld 0) [.t 1] 0, o 7 (.load false 1) [.t 6] 1, o 8 (.bin .lss) [.t 7, .c (ci 0)] 2, m 9 (.t 8) 3, ⟨some 10, .fld 0, [.t 1], some (9, false), 0, 4⟩, ⟨some 11, .load false 1, [.t 10], some (9, false), 0, 5⟩, ⟨some 12, .bin .gtr, [.t 11, .c (ci 32768)], some (9, false), 0, 6⟩, o 13 .pick [.t 9, .c ct, .t 12] 7]) (.cond (.t 13) (.seq (.reg 0 none [m 2 (.c cf) 0]) .ret) .skip)) (.seq (.seq (.reg 0 none [m 3 (.c (ci 0)) 0]) (.blk 0 (.loop 38685626227668133590597642 true c285_2))) c285_s2)))
def c285 : Fn := { fid := 285, np := 1, ntmps := 84, body := (.jn 19342813113834066795298817 c285_1), res := [.tmp 2] }
def L285 : Leaf := coldL c285
theorem kk285 : chkFn Go.Proofs.Tryz.prog ET 285 c285 = true := by kernel_rfl

def c286_2 : C := (.seq (.seq (.reg 0 none [m 4 (.t 3) 0, m 5 (.t 0) 1, o 6 (.len 0) [.t 5] 2, o 7 (.bin .lss) [.t 4, .t 6] 3]) (.cond (.t 7) .skip (.exit 0))) (.seq (.blk 1 (.seq (.reg 0 none [m 10 (.t 0) 0, m 11 (.t 3) 1, o 12 .ixs [.t 10, .t 11] 2, o 13 (.bin .eql) [.t 12, .c (.d (.int .u8 47))] 3, m 14 (.t 13) 4, ⟨some 15, .mov, [.t 0], some (14, false), 0, 5⟩, ⟨some 16, .mov, [.t 3], some (14, false), 0, 6⟩, ⟨some 17, .ixs, [.t 15, .t 16], some (14, false), 0, 7⟩, ⟨some 18, .bin .eql, [.t 17, .c (.d (.int .u8 0))], some (14, false), 0, 8⟩, o 19 .pick [.t 14, .c ct, .t 18] 9]) (.cond (.t 19) (.seq (.reg 0 none [m 2 (.c cf) 0]) .ret) .skip))) (.reg 0 none [m 8 (.t 3) 0, o 9 (.bin .add) [.t 8, .c (ci 1)] 1, m 3 (.t 9) 2])))
def c286_s1 : C := (.seq (.reg 0 none [m 20 (.t 0) 0, o 21 (.len 0) [.t 20] 1, o 22 (.bin .geq) [.t 21, .c (ci 1)] 2, m 23 (.t 22) 3, ⟨some 24, .mov, [.t 0], some (23, true), 0, 4⟩, ⟨some 25, .len 0, [.t 24], some (23, true), 0, 5⟩, ⟨some 26, .bin .leq, [.t 25, .c (ci 24)], some (23, true), 0, 6⟩, o 27 .pick [.t 23, .t 26, .c cf] 7, m 28 (.t 27) 8, ⟨some 29, .mov, [.t 0], some (28, true), 0, 9⟩, ⟨some 30, .bin .neq, [.t 29, .c (.d (.str [46]))], some (28, true), 0, 10⟩, o 31 .pick [.t 28, .t 30, .c cf] 11, m 32 (.t 31) 12, ⟨some 33, .mov, [.t 0], some (32, true), 0, 13⟩, ⟨some 34, .bin .neq, [.t 33, .c (.d (.str [46, 46]))], some (32, true), 0, 14⟩, o 35 .pick [.t 32, .t 34, .c cf] 15, m 2 (.t 35) 16]) .ret)
def c286_1 : C := (.seq (.reg 0 none [m 2 (.c cf) 0]) (.seq (.seq (.reg 0 none [m 3 (.c (ci 0)) 0]) (.blk 0 (.loop 137438953481 false c286_2))) c286_s1))
def c286 : Fn := { fid := 286, np := 1, ntmps := 36, body := (.jn 68719476737 c286_1), res := [.tmp 2] }
def L286 : Leaf := coldL c286
theorem kk286 : chkFn Go.Proofs.Tryz.prog ET 286 c286 = true := by kernel_rfl

def c287_2 : C := (.seq (.seq (.reg 0 none [m 6 (.t 5) 0, m 7 (.t 0) 1, o 8 (.len 1) [.t 7] 2, o 9 (.bin .lss) [.t 6, .t 8] 3]) (.cond (.t 9) .skip (.exit 0))) (.seq (.blk 1 (.seq (.reg 0 none [m 12 (.t 0) 0, m 13 (.t 5) 1, o 14 (.ix 1) [.t 12, .t 13] 2, o 15 (.load false 1) [.t 14] 3, m 16 (.t 1) 4, o 17 (.bin .eql) [.t 15, .t 16] 5]) (.cond (.t 17) (.seq (.reg 0 none [m 4 (.c ct) 0]) .ret) .skip))) (.reg 0 none [m 10 (.t 5) 0, o 11 (.bin .add) [.t 10, .c (ci 1)] 1, m 5 (.t 11) 2])))
def c287_s1 : C := (.seq (.reg 0 none [m 4 (.c cf) 0]) .ret)
def c287_1 : C := (.seq (.reg 0 none [m 4 (.c cf) 0]) (.seq (.seq (.reg 0 none [m 5 (.c (ci 0)) 0]) (.blk 0 (.loop 524323 false c287_2))) c287_s1))
def c287 : Fn := { fid := 287, np := 2, ntmps := 18, body := (.jn 262147 c287_1), res := [.tmp 4] }
def L287 : Leaf := coldL c287
theorem kk287 : chkFn Go.Proofs.Tryz.prog ET 287 c287 = true := by kernel_rfl

def c289 : Fn := { fid := 289, np := 2, ntmps := 13, body := (.seq (.reg 1 none [o 2 (.box 0) [.t 0] 0, m 4 (.c cf) 1]) (.seq (.reg 0 none [o 5 (.load true 2) [.t 2] 0, m 6 (.t 1) 1, o 7 (.call 82) [.t 5, .t 6, .c (ci 1)] 2, m 8 (.t 7) 3, ⟨some 9, .load true 2, [.t 2], some (8, false), 0, 4⟩, ⟨some 10, .mov, [.t 1], some (8, false), 0, 5⟩, ⟨some 11, .call 82, [.t 9, .t 10, .c (ci 3)], some (8, false), 0, 6⟩, o 12 .pick [.t 8, .c ct, .t 11] 7, m 4 (.t 12) 8]) .ret)), res := [.tmp 4] }
def L289 : Leaf := coldL c289
theorem kk289 : chkFn Go.Proofs.Tryz.prog ET 289 c289 = true := by kernel_rfl

def c297 : Fn := { fid := 297, np := 1, ntmps := 6, body := (.seq (.reg 0 none [m 2 (.c cf) 0]) (.seq (.reg 0 none [m 3 (.t 0) 0, m 4 (.t 0) 1, o 5 (.bin .neq) [.t 3, .t 4] 2, m 2 (.t 5) 3]) .ret)), res := [.tmp 2] }
def b297_0 (c : Cx) (t0 : V) (H : List Blk) : X := p (aBin .neq t0 t0) fun x1 => some (x1, H)
def s297 (c : Cx) (args : List V) (H : List Blk) : X := argsK 1 args (b297_0 c (getT args 0) H)
theorem e297 (pc ic n args H) : runK pc ic n c297 args H = s297 ⟨pc, ic, n⟩ args H := by
  unfold s297
  kernel_rfl
def L297 : Leaf := ⟨c297, fun pc ic n => s297 ⟨pc, ic, n⟩, e297⟩
theorem kk297 : chkFn Go.Proofs.Tryz.prog ET 297 c297 = true := by kernel_rfl

def c302_1 : C := (.seq (.reg 3 none [o 3 (.box 0) [.t 0] 0, o 5 (.box 1) [.t 2] 1, o 6 (.alloc 2 z14) [] 2]) (.seq (.reg 1 none [o 7 (.fld 2) [.t 3] 0, o 8 (.load false 1) [.t 7] 1, o 9 (.cloneA 0 4 48) [.t 8] 2, o 10 (.fld 2) [.t 3] 3, ⟨none, .store 1, [.t 10, .t 9], none, 0, 4⟩]) (.seq (.reg 0 none [o 11 (.fld 2) [.t 3] 0, o 12 (.load false 1) [.t 11] 1, m 13 (.t 1) 2, o 14 (.load true 4) [.t 5] 3, o 15 (.ix 4) [.t 12, .t 13] 4, ⟨none, .store 4, [.t 15, .t 14], none, 0, 5⟩]) (.seq (.reg 0 none [o 16 (.load true 7) [.t 3] 0, ⟨none, .store 7, [.t 6, .t 16], none, 0, 1⟩]) .ret))))
def c302 : Fn := { fid := 302, np := 3, ntmps := 17, body := (.jn 131079 c302_1), res := [.cell 6 true 7] }
def L302 : Leaf := coldL c302
theorem kk302 : chkFn Go.Proofs.Tryz.prog ET 302 c302 = true := by kernel_rfl

def c303_1 : C := (.seq (.reg 3 none [o 3 (.box 0) [.t 0] 0, o 4 (.box 1) [.t 1] 1, o 6 (.alloc 2 z10) [] 2]) (.seq (.reg 0 none [o 9 (.load true 4) [.t 3] 0, o 10 (.icall 108) [.t 9] 1, ⟨none, .store 4, [.t 3, .t 10], none, 0, 2⟩]) (.seq (.reg 0 none [o 12 (.fld 1) [.t 3] 0, o 13 (.load false 1) [.t 12] 1, o 14 (.load true 2) [.t 4] 2, o 15 (.icall 10080) [.t 13, .t 14, .c (.fn 81 [])] 3, m 11 (.t 15) 4, o 16 (.ext 0) [.t 11] 5, o 17 (.ext 1) [.t 11] 6, m 7 (.t 16) 7, m 8 (.t 17) 8]) (.seq (.seq (.reg 0 none [m 18 (.t 8) 0]) (.cond (.t 18) (.seq (.reg 0 none [o 19 (.fld 1) [.t 3] 0, o 20 (.load false 1) [.t 19] 1, m 21 (.t 7) 2, m 22 (.t 2) 3, o 23 (.ix 3) [.t 20, .t 21] 4, o 24 (.fld 2) [.t 23] 5, ⟨none, .store 1, [.t 24, .t 22], none, 0, 6⟩]) (.seq (.reg 0 none [o 25 (.load true 4) [.t 3] 0, ⟨none, .store 4, [.t 6, .t 25], none, 0, 1⟩]) .ret)) .skip)) (.seq (.reg 2 none [o 26 (.fld 1) [.t 3] 0, o 27 (.load false 1) [.t 26] 1, m 28 (.t 7) 2, o 29 (.load true 2) [.t 4] 3, m 30 (.t 2) 4, o 31 (.build z11 [(0, 2), (2, 1)]) [.t 29, .t 30] 5, o 32 (.bsa 0 3 z11 1 [0]) [.t 31] 6, o 33 (.insA 1 3 24) [.t 27, .t 28, .t 32] 7, o 34 (.fld 1) [.t 3] 8, ⟨none, .store 1, [.t 34, .t 33], none, 0, 9⟩]) (.seq (.reg 0 none [o 35 (.load true 4) [.t 3] 0, ⟨none, .store 4, [.t 6, .t 35], none, 0, 1⟩]) .ret))))))
def c303 : Fn := { fid := 303, np := 3, ntmps := 36, body := (.jn 68719476743 c303_1), res := [.cell 6 true 4] }
def L303 : Leaf := coldL c303
theorem kk303 : chkFn Go.Proofs.Tryz.prog ET 303 c303 = true := by kernel_rfl

def c304_3 : C := (.seq (.seq (.reg 0 (some ⟨true, [], 49⟩) [m 16 (.t 7) 0, m 17 (.t 1) 1, ⟨some 18, .bin .gtr, [.t 16, .t 17], none, 3, 2⟩, ⟨some 19, .mov, [.t 18], none, 7, 3⟩, ⟨some 20, .mov, [.t 0], some (19, true), 15, 4⟩, ⟨some 21, .mov, [.t 7], some (19, true), 15, 5⟩, ⟨some 22, .ix 1, [.t 20, .t 21], some (19, true), 63, 6⟩, ⟨some 23, .load false 1, [.t 22], some (19, true), 127, 7⟩, ⟨some 24, .mov, [.t 0], some (19, true), 15, 8⟩, ⟨some 25, .mov, [.t 7], some (19, true), 15, 9⟩, ⟨some 26, .bin .sub, [.t 25, .c (ci 1)], some (19, true), 527, 10⟩, ⟨some 27, .ix 1, [.t 24, .t 26], some (19, true), 1807, 11⟩, ⟨some 28, .load false 1, [.t 27], some (19, true), 3855, 12⟩, ⟨some 29, .call 310, [.t 23, .t 28], some (19, true), 8191, 13⟩, ⟨some 30, .pick, [.t 19, .t 29, .c cf], none, 16383, 14⟩]) (.cond (.t 30) .skip (.exit 2))) (.seq (.blk 3 (.reg 0 (some ⟨true, [0, 1, 5, 6, 7, 8, 9, 10, 11, 12, 13, 14, 15, 2, 3, 4, 16, 17], 49⟩) [m 33 (.t 0) 0, m 34 (.t 7) 1, m 35 (.t 0) 2, m 36 (.t 7) 3, ⟨some 37, .bin .sub, [.t 36, .c (ci 1)], none, 8, 4⟩, m 38 (.t 0) 5, m 39 (.t 7) 6, ⟨some 40, .bin .sub, [.t 39, .c (ci 1)], none, 64, 7⟩, ⟨some 41, .ix 1, [.t 38, .t 40], none, 224, 8⟩, ⟨some 42, .load false 1, [.t 41], none, 480, 9⟩, m 43 (.t 0) 10, m 44 (.t 7) 11, ⟨some 45, .ix 1, [.t 43, .t 44], none, 3072, 12⟩, ⟨some 46, .load false 1, [.t 45], none, 7168, 13⟩, ⟨some 47, .ix 1, [.t 33, .t 34], none, 16355, 14⟩, ⟨none, .store 1, [.t 47, .t 42], none, 32739, 15⟩, ⟨some 48, .ix 1, [.t 35, .t 37], none, 65535, 16⟩, ⟨none, .store 1, [.t 48, .t 46], none, 131071, 17⟩])) (.reg 0 none [m 31 (.t 7) 0, o 32 (.bin .sub) [.t 31, .c (ci 1)] 1, m 7 (.t 32) 2])))
def c304_s1 : C := (.reg 0 none [m 13 (.t 6) 0, o 14 (.bin .add) [.t 13, .c (ci 1)] 1, m 6 (.t 14) 2])
def c304_2 : C := (.seq (.seq (.reg 0 none [m 10 (.t 6) 0, m 11 (.t 2) 1, o 12 (.bin .lss) [.t 10, .t 11] 2]) (.cond (.t 12) .skip (.exit 0))) (.seq (.blk 1 (.seq (.reg 0 none [m 15 (.t 6) 0, m 7 (.t 15) 1]) (.blk 2 (.loop 1688849860264135 false c304_3)))) c304_s1))
def c304_1 : C := (.seq (.reg 0 none [m 8 (.t 1) 0, o 9 (.bin .add) [.t 8, .c (ci 1)] 1, m 6 (.t 9) 2]) (.blk 0 (.loop 1125899906842695 false c304_2)))
def c304 : Fn := { fid := 304, np := 3, ntmps := 49, body := (.jn 562949953421319 c304_1), res := [] }
def d304_1 (c : Cx) (t0 t1 t2 : V) (H : List Blk) : X := stepK c.pc c.ic c.n (.jn 562949953421319 c304_1) (cn 0 49 [(0, t0), (1, t1), (2, t2)]) H (kTop c304.res)
def k304_1 (c : Cx) : KT := blkK 0 (kTop c304.res)
def d304_2 (c : Cx) (m n2 : Nat) (t0 t1 t2 t6 : V) (H : List Blk) : X := jnK (loopsK (stepK c.pc c.ic c.n c304_2) 1125899906842695 false n2 m) (cn 0 49 [(0, t0), (1, t1), (2, t2), (6, t6)]) H (k304_1 c) 1125899906842695
def k304_2 (c : Cx) (m2 n2 : Nat) : KT := thenK (fun ts H k => jnK (loopsK (stepK c.pc c.ic c.n c304_2) 1125899906842695 false n2 m2) (maskT 1125899906842695 0 ts) H k 1125899906842695) (k304_1 c)
def k304_3 (c : Cx) (m2 n2 : Nat) : KT := thenK (stepK c.pc c.ic c.n c304_s1) (k304_2 c m2 n2)
def k304_4 (c : Cx) (m2 n2 : Nat) : KT := blkK 1 (k304_3 c m2 n2)
def k304_5 (c : Cx) (m2 n2 : Nat) : KT := blkK 2 (k304_4 c m2 n2)
def d304_3 (c : Cx) (m2 n2 : Nat) (m n3 : Nat) (t0 t1 t2 t6 t7 : V) (H : List Blk) : X := jnK (loopsK (stepK c.pc c.ic c.n c304_3) 1688849860264135 false n3 m) (cn 0 49 [(0, t0), (1, t1), (2, t2), (6, t6), (7, t7)]) H (k304_5 c m2 n2) 1688849860264135
def b304_3 (c : Cx) (r2 : F4) (r3 : F5) (n3 : Nat) (t0 t1 t2 t6 t7 : V) (H : List Blk) : X := p (aBin .gtr t7 t1) fun x1 => guardK x1 true (fun k => (aMov t0).go H k) H fun x2 H => guardK x1 true (fun k => (aMov t7).go H k) H fun x3 H => guardK x1 true (fun k => (aIx 1 x2 x3).go H k) H fun x4 H => (fun (t0 t1 t2 t6 t7 x1 x4 : V) (H : L) (c : Cx) (r2 : F4) (r3 : F5) => guardK x1 true (fun k => (aLoad false 1 x4).go H k) H fun x5 H => guardK x1 true (fun k => (aMov t0).go H k) H fun x6 H => guardK x1 true (fun k => (aMov t7).go H k) H fun x7 H => guardK x1 true (fun k => (aBin .sub x7 (ci 1)).go H k) H fun x8 H => (fun (t0 t1 t2 t6 t7 x1 x5 x6 x8 : V) (H : L) (c : Cx) (r2 : F4) (r3 : F5) => guardK x1 true (fun k => (aIx 1 x6 x8).go H k) H fun x9 H => guardK x1 true (fun k => (aLoad false 1 x9).go H k) H fun x10 H => guardK x1 true (fun k => (aCall c.pc 310 [x5, x10]).go H k) H fun x11 H => p (aPick x1 x11 cf) fun x12 => condK x12 ((fun (t0 t1 t2 t6 t7 : V) (H : L) (r3 : F5) => p (aBin .sub t7 (ci 1)) fun x13 => p (aBin .sub t7 (ci 1)) fun x14 => (fun (t0 t1 t2 t6 t7 x13 x14 : V) (H : L) (r3 : F5) => p (aIx 1 t0 x14) fun x15 => (aLoad false 1 x15).go H fun x16 H => p (aIx 1 t0 t7) fun x17 => (aLoad false 1 x17).go H fun x18 H => (fun (t0 t1 t2 t6 t7 x13 x16 x18 : V) (H : L) (r3 : F5) => p (aIx 1 t0 t7) fun x19 => (aStore 1 x19 x16).go H fun _ H => p (aIx 1 t0 x13) fun x20 => (aStore 1 x20 x18).go H fun _ H => p (aBin .sub t7 (ci 1)) fun x21 => r3 t0 t1 t2 t6 x21 H) t0 t1 t2 t6 t7 x13 x16 x18 H r3) t0 t1 t2 t6 t7 x13 x14 H r3) t0 t1 t2 t6 t7 H r3) (p (aBin .add t6 (ci 1)) fun x22 => r2 t0 t1 t2 x22 H)) t0 t1 t2 t6 t7 x1 x5 x6 x8 H c r2 r3) t0 t1 t2 t6 t7 x1 x4 H c r2 r3
def j304_3 (c : Cx) (r2 : F4) : Nat → Nat → F5 := recN (fun _ _ _ _ _ _ _ => none) fun ih n3 => b304_3 c r2 (ih n3) n3
theorem o304_3 (c : Cx) (m2 n2 : Nat) : d304_3 c m2 n2 = j304_3 c (d304_2 c m2 n2) := by
  unfold j304_3
  refine recN_ok (by kernel_rfl) fun m => funext fun n3 => ?_
  funext t0 t1 t2 t6 t7 H
  refine Eq.trans (jnK_eq 1688849860264135 _ _ H _) ?_
  kernel_rfl
def b304_2 (c : Cx) (j3 : Nat → Nat → F5) (n2 : Nat) (t0 t1 t2 t6 : V) (H : List Blk) : X := p (aBin .lss t6 t2) fun x1 => condK x1 (j3 c.n H.length t0 t1 t2 t6 t6 H) (some (.tup [], H))
def j304_2 (c : Cx) : Nat → Nat → F4 := recN (fun _ _ _ _ _ _ => none) fun ih n2 => b304_2 c (j304_3 c (ih n2)) n2
theorem o304_2 (c : Cx) : d304_2 c = j304_2 c := by
  unfold j304_2
  refine recN_ok (by kernel_rfl) fun m => funext fun n2 => ?_
  simp only [← o304_3]
  funext t0 t1 t2 t6 H
  refine Eq.trans (jnK_eq 1125899906842695 _ _ H _) ?_
  kernel_rfl
def b304_1 (c : Cx) (j2 : Nat → Nat → F4) (t0 t1 t2 : V) (H : List Blk) : X := p (aBin .add t1 (ci 1)) fun x1 => j2 c.n H.length t0 t1 t2 x1 H
def j304_1 (c : Cx) : F3 := b304_1 c (j304_2 c)
theorem o304_1 (c : Cx) : d304_1 c = j304_1 c := by
  unfold j304_1; rw [← o304_2]
  funext t0 t1 t2 H
  refine Eq.trans (stepK_jn c.pc c.ic c.n _ H _ 562949953421319 c304_1) ?_
  kernel_rfl
def b304_0 (c : Cx) (j1 : F3) (t0 t1 t2 : V) (H : List Blk) : X := j1 t0 t1 t2 H
def s304 (c : Cx) (args : List V) (H : List Blk) : X := argsK 3 args (b304_0 c (j304_1 c) (getT args 0) (getT args 1) (getT args 2) H)
theorem e304 (pc ic n args H) : runK pc ic n c304 args H = s304 ⟨pc, ic, n⟩ args H := by
  unfold s304; rw [← o304_1]
  kernel_rfl
def L304 : Leaf := ⟨c304, fun pc ic n => s304 ⟨pc, ic, n⟩, e304⟩
theorem kk304 : chkFn Go.Proofs.Tryz.prog ET 304 c304 = true := by kernel_rfl

def c310 : Fn := { fid := 310, np := 2, ntmps := 17, body := (.seq (.reg 0 none [m 4 (.c cf) 0]) (.seq (.reg 0 none [m 5 (.t 0) 0, o 6 (.call 297) [.t 5] 1, m 7 (.t 6) 2, ⟨some 8, .mov, [.t 1], some (7, true), 0, 3⟩, ⟨some 9, .call 297, [.t 8], some (7, true), 0, 4⟩, ⟨some 10, .un .not, [.t 9], some (7, true), 0, 5⟩, o 11 .pick [.t 7, .t 10, .c cf] 6, m 12 (.t 11) 7, ⟨some 13, .mov, [.t 0], some (12, false), 0, 8⟩, ⟨some 14, .mov, [.t 1], some (12, false), 0, 9⟩, ⟨some 15, .bin .lss, [.t 13, .t 14], some (12, false), 0, 10⟩, o 16 .pick [.t 12, .c ct, .t 15] 11, m 4 (.t 16) 12]) .ret)), res := [.tmp 4] }
def L310 : Leaf := coldL c310
theorem kk310 : chkFn Go.Proofs.Tryz.prog ET 310 c310 = true := by kernel_rfl

def c314_3 : C := (.seq (.reg 0 none [m 19 (.t 2) 0, m 20 (.t 0) 1, o 21 (.toInt .u8) [.t 20] 2, o 22 .ixs [.c (.d (.str [0, 1, 2, 2, 3, 3, 3, 3, 4, 4, 4, 4, 4, 4, 4, 4, 5, 5, 5, 5, 5, 5, 5, 5, 5, 5, 5, 5, 5, 5, 5, 5, 6, 6, 6, 6, 6, 6, 6, 6, 6, 6, 6, 6, 6, 6, 6, 6, 6, 6, 6, 6, 6, 6, 6, 6, 6, 6, 6, 6, 6, 6, 6, 6, 7, 7, 7, 7, 7, 7, 7, 7, 7, 7, 7, 7, 7, 7, 7, 7, 7, 7, 7, 7, 7, 7, 7, 7, 7, 7, 7, 7, 7, 7, 7, 7, 7, 7, 7, 7, 7, 7, 7, 7, 7, 7, 7, 7, 7, 7, 7, 7, 7, 7, 7, 7, 7, 7, 7, 7, 7, 7, 7, 7, 7, 7, 7, 7, 8, 8, 8, 8, 8, 8, 8, 8, 8, 8, 8, 8, 8, 8, 8, 8, 8, 8, 8, 8, 8, 8, 8, 8, 8, 8, 8, 8, 8, 8, 8, 8, 8, 8, 8, 8, 8, 8, 8, 8, 8, 8, 8, 8, 8, 8, 8, 8, 8, 8, 8, 8, 8, 8, 8, 8, 8, 8, 8, 8, 8, 8, 8, 8, 8, 8, 8, 8, 8, 8, 8, 8, 8, 8, 8, 8, 8, 8, 8, 8, 8, 8, 8, 8, 8, 8, 8, 8, 8, 8, 8, 8, 8, 8, 8, 8, 8, 8, 8, 8, 8, 8, 8, 8, 8, 8, 8, 8, 8, 8, 8, 8, 8, 8, 8, 8, 8, 8, 8, 8, 8, 8, 8, 8, 8, 8, 8, 8])), .t 21] 3, o 23 (.toInt .i64) [.t 22] 4, o 24 (.bin .add) [.t 19, .t 23] 5, m 2 (.t 24) 6]) .ret)
def c314_2 : C := (.seq (.seq (.reg 0 none [m 13 (.t 0) 0, o 14 (.bin .geq) [.t 13, .c (.d (.int .u64 256))] 1]) (.cond (.t 14) (.seq (.reg 0 none [m 15 (.t 0) 0, o 16 (.bin .shr) [.t 15, .c (.d (.int .u64 8))] 1, m 0 (.t 16) 2]) (.reg 0 none [m 17 (.t 2) 0, o 18 (.bin .add) [.t 17, .c (ci 8)] 1, m 2 (.t 18) 2])) .skip)) (.jn 100663301 c314_3))
def c314_1 : C := (.seq (.seq (.reg 0 none [m 7 (.t 0) 0, o 8 (.bin .geq) [.t 7, .c (.d (.int .u64 65536))] 1]) (.cond (.t 8) (.seq (.reg 0 none [m 9 (.t 0) 0, o 10 (.bin .shr) [.t 9, .c (.d (.int .u64 16))] 1, m 0 (.t 10) 2]) (.reg 0 none [m 11 (.t 2) 0, o 12 (.bin .add) [.t 11, .c (ci 16)] 1, m 2 (.t 12) 2])) .skip)) (.jn 67108869 c314_2))
def c314 : Fn := { fid := 314, np := 1, ntmps := 25, body := (.seq (.reg 0 none [m 2 (.c (ci 0)) 0]) (.seq (.seq (.reg 0 none [m 3 (.t 0) 0, o 4 (.bin .geq) [.t 3, .c (.d (.int .u64 4294967296))] 1]) (.cond (.t 4) (.seq (.reg 0 none [m 5 (.t 0) 0, o 6 (.bin .shr) [.t 5, .c (.d (.int .u64 32))] 1, m 0 (.t 6) 2]) (.reg 0 none [m 2 (.c (ci 32)) 0])) .skip)) (.jn 33554437 c314_1))), res := [.tmp 2] }
def L314 : Leaf := coldL c314
theorem kk314 : chkFn Go.Proofs.Tryz.prog ET 314 c314 = true := by kernel_rfl

def c80A_2 : C := (.seq (.seq (.reg 0 none [m 15 (.t 9) 0, m 16 (.t 10) 1, o 17 (.bin .lss) [.t 15, .t 16] 2]) (.cond (.t 17) .skip (.exit 0))) (.blk 1 (.seq (.reg 0 none [m 18 (.t 9) 0, m 19 (.t 10) 1, o 20 (.bin .add) [.t 18, .t 19] 2, o 21 (.toInt .u64) [.t 20] 3, o 22 (.bin .shr) [.t 21, .c (.d (.int .u64 1))] 4, o 23 (.toInt .i64) [.t 22] 5, m 11 (.t 23) 6]) (.seq (.reg 0 (some ⟨true, [], 49⟩) [m 24 (.t 2) 0, m 25 (.t 0) 1, m 26 (.t 11) 2, ⟨some 27, .ix 3, [.t 25, .t 26], none, 6, 3⟩, ⟨some 28, .load true 3, [.t 27], none, 14, 4⟩, o 29 (.load true 2) [.t 4] 5, ⟨some 30, .dcall, [.t 24, .t 28, .t 29], none, 63, 6⟩, ⟨some 31, .bin .lss, [.t 30, .c (ci 0)], none, 127, 7⟩]) (.cond (.t 31) (.reg 0 none [m 32 (.t 11) 0, o 33 (.bin .add) [.t 32, .c (ci 1)] 1, m 9 (.t 33) 2]) (.reg 0 none [m 34 (.t 11) 0, m 10 (.t 34) 1]))))))
def c80A_s1 : C := (.seq (.reg 0 (some ⟨true, [0, 1, 2, 3, 4, 5, 6, 7, 8, 9, 10, 11, 14, 12, 13, 15], 49⟩) [m 35 (.t 9) 0, m 36 (.t 9) 1, m 37 (.t 8) 2, ⟨some 38, .bin .lss, [.t 36, .t 37], none, 6, 3⟩, ⟨some 39, .mov, [.t 38], none, 14, 4⟩, ⟨some 40, .mov, [.t 2], some (39, true), 30, 5⟩, ⟨some 41, .mov, [.t 0], some (39, true), 30, 6⟩, ⟨some 42, .mov, [.t 9], some (39, true), 30, 7⟩, ⟨some 43, .ix 3, [.t 41, .t 42], some (39, true), 222, 8⟩, ⟨some 44, .load true 3, [.t 43], some (39, true), 478, 9⟩, ⟨some 45, .load true 2, [.t 4], some (39, true), 30, 10⟩, ⟨some 46, .dcall, [.t 40, .t 44, .t 45], some (39, true), 2046, 11⟩, ⟨some 47, .bin .eql, [.t 46, .c (ci 0)], some (39, true), 4094, 12⟩, ⟨some 48, .pick, [.t 39, .t 47, .c cf], none, 8190, 13⟩, ⟨some 6, .mov, [.t 35], none, 4095, 14⟩, ⟨some 7, .mov, [.t 48], none, 32767, 15⟩]) .ret)
def c80A_1 : C := (.seq (.reg 1 none [o 4 (.box 0) [.t 1] 0, m 6 (.c (ci 0)) 1, m 7 (.c cf) 2]) (.seq (.reg 0 none [m 12 (.t 0) 0, o 13 (.len 1) [.t 12] 1, m 8 (.t 13) 2]) (.seq (.reg 0 none [m 14 (.t 8) 0, m 9 (.c (ci 0)) 1, m 10 (.t 14) 2]) (.seq (.blk 0 (.loop 1125899906844437 true c80A_2)) c80A_s1))))
def c80A : Fn := { fid := 80, np := 3, ntmps := 49, body := (.jn 562949953421319 c80A_1), res := [.tmp 6, .tmp 7] }
def d80A_1 (c : Cx) (t0 t1 t2 : V) (H : List Blk) : X := stepK c.pc c.ic c.n (.jn 562949953421319 c80A_1) (cn 0 49 [(0, t0), (1, t1), (2, t2)]) H (kTop c80A.res)
def k80A_1 (c : Cx) : KT := thenK (stepK c.pc c.ic c.n c80A_s1) (kTop c80A.res)
def k80A_2 (c : Cx) : KT := blkK 0 (k80A_1 c)
def d80A_2 (c : Cx) (m n2 : Nat) (t0 t2 t4 t8 t9 t10 : V) (H : List Blk) : X := jnK (loopsK (stepK c.pc c.ic c.n c80A_2) 1125899906844437 true n2 m) (cn 0 49 [(0, t0), (2, t2), (4, t4), (8, t8), (9, t9), (10, t10)]) H (k80A_2 c) 1125899906844437
def b80A_2 (c : Cx) (r2 : F6) (n2 : Nat) (t0 t2 t4 t8 t9 t10 : V) (H : List Blk) : X := bnd (trimF true n2 [t0, t2, t4, t8, t9, t10] H) fun H => p (aBin .lss t9 t10) fun x1 => condK x1 ((fun (t0 t2 t4 t8 t9 t10 : V) (H : L) (c : Cx) (r2 : F6) => p (aBin .add t9 t10) fun x2 => p (aToInt .u64 x2) fun x3 => p (aBin .shr x3 (.d (.int .u64 1))) fun x4 => p (aToInt .i64 x4) fun x5 => p (aIx 3 t0 x5) fun x6 => (fun (t0 t2 t4 t8 t9 t10 x5 x6 : V) (H : L) (c : Cx) (r2 : F6) => (aLoad true 3 x6).go H fun x7 H => (aLoad true 2 t4).go H fun x8 H => callK c.ic [t2, x7, x8] H fun x9 H => p (aBin .lss x9 (ci 0)) fun x10 => condK x10 (p (aBin .add x5 (ci 1)) fun x11 => r2 t0 t2 t4 t8 x11 t10 H) (r2 t0 t2 t4 t8 t9 x5 H)) t0 t2 t4 t8 t9 t10 x5 x6 H c r2) t0 t2 t4 t8 t9 t10 H c r2) ((fun (t0 t2 t4 t8 t9 : V) (H : L) (c : Cx) => p (aBin .lss t9 t8) fun x12 => guardK x12 true (fun k => (aMov t2).go H k) H fun x13 H => (fun (t0 t4 t9 x12 x13 : V) (H : L) (c : Cx) => guardK x12 true (fun k => (aMov t0).go H k) H fun x14 H => guardK x12 true (fun k => (aMov t9).go H k) H fun x15 H => guardK x12 true (fun k => (aIx 3 x14 x15).go H k) H fun x16 H => guardK x12 true (fun k => (aLoad true 3 x16).go H k) H fun x17 H => (fun (t4 t9 x12 x13 x17 : V) (H : L) (c : Cx) => guardK x12 true (fun k => (aLoad true 2 t4).go H k) H fun x18 H => guardK x12 true (callK c.ic [x13, x17, x18] H) H fun x19 H => guardK x12 true (fun k => (aBin .eql x19 (ci 0)).go H k) H fun x20 H => p (aPick x12 x20 cf) fun x21 => some (.tup [t9, x21], H)) t4 t9 x12 x13 x17 H c) t0 t4 t9 x12 x13 H c) t0 t2 t4 t8 t9 H c)
def j80A_2 (c : Cx) : Nat → Nat → F6 := recN (fun _ _ _ _ _ _ _ _ => none) fun ih n2 => b80A_2 c (ih n2) n2
theorem o80A_2 (c : Cx) : d80A_2 c = j80A_2 c := by
  unfold j80A_2
  refine recN_ok (by kernel_rfl) fun m => funext fun n2 => ?_
  funext t0 t2 t4 t8 t9 t10 H
  refine Eq.trans (jnK_eq 1125899906844437 _ _ H _) ?_
  kernel_rfl
def b80A_1 (c : Cx) (j2 : Nat → Nat → F6) (t0 t1 t2 : V) (H : List Blk) : X := newK 1 H fun q H => (aBox (q + 0) t1).go H fun x1 H => (aLen 1 t0).go H fun x2 H => j2 c.n H.length t0 t2 x1 x2 (ci 0) x2 H
def j80A_1 (c : Cx) : F3 := b80A_1 c (j80A_2 c)
theorem o80A_1 (c : Cx) : d80A_1 c = j80A_1 c := by
  unfold j80A_1; rw [← o80A_2]
  funext t0 t1 t2 H
  refine Eq.trans (stepK_jn c.pc c.ic c.n _ H _ 562949953421319 c80A_1) ?_
  kernel_rfl
def b80A_0 (c : Cx) (j1 : F3) (t0 t1 t2 : V) (H : List Blk) : X := j1 t0 t1 t2 H
def s80A (c : Cx) (args : List V) (H : List Blk) : X := argsK 3 args (b80A_0 c (j80A_1 c) (getT args 0) (getT args 1) (getT args 2) H)
theorem e80A (pc ic n args H) : runK pc ic n c80A args H = s80A ⟨pc, ic, n⟩ args H := by
  unfold s80A; rw [← o80A_1]
  kernel_rfl
def L80A : Leaf := ⟨c80A, fun pc ic n => s80A ⟨pc, ic, n⟩, e80A⟩
theorem kk80A : chkFn Go.Proofs.Tryz.prog ET 10080 c80A = true := by kernel_rfl

def l102A_0 : List O := [o 15 (.fld 1) [.t 3] 0, ⟨some 16, .load false 1, [.t 15], none, 1, 1⟩, o 17 (.fld 1) [.t 1] 2, ⟨some 18, .load false 1, [.t 17], none, 4, 3⟩, m 19 (.t 4) 4, ⟨some 20, .ix 2, [.t 18, .t 19], none, 28, 5⟩, ⟨some 21, .fld 0, [.t 20], none, 60, 6⟩, ⟨some 22, .load false 1, [.t 21], none, 124, 7⟩, o 23 (.bsa 0 1 [(.d (.int .u8 0))] 0 []) [] 8, o 24 (.fld 1) [.t 1] 9, ⟨some 25, .load false 1, [.t 24], none, 512, 10⟩, m 26 (.t 4) 11, ⟨some 27, .ix 2, [.t 25, .t 26], none, 3584, 12⟩, ⟨some 28, .fld 1, [.t 27], none, 7680, 13⟩, ⟨some 29, .load false 1, [.t 28], none, 15872, 14⟩, ⟨some 30, .appA 1 1 1, [.t 23, .t 29], none, 32512, 15⟩, ⟨some 31, .build [(ci 0), .nilS] [(0, 1), (1, 1)], [.t 22, .t 30], none, 65532, 16⟩, ⟨some 32, .bsa 2 2 [(ci 0), .nilS] 1 [0], [.t 31], none, 131068, 17⟩, ⟨some 33, .appA 3 2 32, [.t 16, .t 32], none, 262143, 18⟩, ⟨some 34, .fld 1, [.t 3], none, 524287, 19⟩, ⟨none, .store 1, [.t 34, .t 33], none, 1048575, 20⟩]
def c102A_2 : C := (.seq (.seq (.reg 0 none [m 8 (.t 4) 0, o 9 (.fld 1) [.t 1] 1, o 10 (.load false 1) [.t 9] 2, o 11 (.len 1) [.t 10] 3, o 12 (.bin .lss) [.t 8, .t 11] 4]) (.cond (.t 12) .skip (.exit 0))) (.seq (.blk 1 (.reg 4 (some ⟨false, [], 36⟩) l102A_0)) (.reg 0 none [m 13 (.t 4) 0, o 14 (.bin .add) [.t 13, .c (ci 1)] 1, m 4 (.t 14) 2])))
def c102A_s1 : C := (.seq (.reg 0 none [o 35 (.load true 2) [.t 3] 0, ⟨none, .store 2, [.t 2, .t 35], none, 0, 1⟩]) .ret)
def c102A_1 : C := (.seq (.reg 2 none [o 1 (.box 0) [.t 0] 0, o 2 (.alloc 1 [(ci 0), .nilS]) [] 1]) (.seq (.reg 1 none [o 5 (.fld 0) [.t 1] 0, o 6 (.load false 1) [.t 5] 1, o 7 (.build [(ci 0), .nilS] [(0, 1)]) [.t 6] 2, o 3 (.alloc 0 [(ci 0), .nilS]) [] 3, ⟨none, .store 2, [.t 3, .t 7], none, 0, 4⟩]) (.seq (.seq (.reg 0 none [m 4 (.c (ci 0)) 0]) (.blk 0 (.loop 137438953502 false c102A_2))) c102A_s1)))
def c102A : Fn := { fid := 102, np := 1, ntmps := 36, body := (.jn 68719476737 c102A_1), res := [.cell 2 true 2] }
def L102A : Leaf := coldL c102A
theorem kk102A : chkFn Go.Proofs.Tryz.prog ET 10102 c102A = true := by kernel_rfl

def c172A : Fn := { fid := 172, np := 2, ntmps := 12, body := (.seq (.reg 1 none [o 2 (.box 0) [.t 0] 0, m 4 (.c (ci 0)) 1, m 5 (.c cf) 2]) (.seq (.reg 0 none [o 6 (.fld 7) [.t 2] 0, o 7 (.load false 1) [.t 6] 1, m 8 (.t 1) 2, o 9 (.icall 10261) [.t 7, .t 8, .c (.fn 262 [])] 3, o 10 (.ext 0) [.t 9] 4, o 11 (.ext 1) [.t 9] 5, m 4 (.t 10) 6, m 5 (.t 11) 7]) .ret)), res := [.tmp 4, .tmp 5] }
def L172A : Leaf := coldL c172A
theorem kk172A : chkFn Go.Proofs.Tryz.prog ET 10172 c172A = true := by kernel_rfl

def c188A_2 : C := (.seq (.reg 0 none [o 9 (.bin .lss) [.t 8, .t 7] 0]) (.seq (.cond (.t 9) .skip (.exit 0)) (.seq (.blk 1 (.seq (.reg 0 none [m 10 (.t 8) 0, m 5 (.t 10) 1]) (.seq (.reg 0 none [m 11 (.t 1) 0, m 12 (.t 0) 1, m 13 (.t 5) 2, o 14 (.ix 3) [.t 12, .t 13] 3, o 15 (.load true 3) [.t 14] 4, o 16 .dcall [.t 11, .t 15] 5]) (.cond (.t 16) (.seq (.reg 0 none [m 17 (.t 5) 0, m 4 (.t 17) 1]) .ret) .skip)))) (.reg 0 none [o 18 (.bin .add) [.t 8, .c (ci 1)] 0, m 8 (.t 18) 1]))))
def c188A_s1 : C := (.seq (.reg 0 none [m 4 (.c (ci (-1))) 0]) .ret)
def c188A_1 : C := (.seq (.reg 0 none [m 4 (.c (ci 0)) 0]) (.seq (.seq (.reg 0 none [m 6 (.t 0) 0, o 7 (.len 1) [.t 6] 1, m 8 (.c (ci 0)) 2]) (.blk 0 (.loop 1048963 true c188A_2))) c188A_s1))
def c188A : Fn := { fid := 188, np := 2, ntmps := 19, body := (.jn 524291 c188A_1), res := [.tmp 4] }
def L188A : Leaf := coldL c188A
theorem kk188A : chkFn Go.Proofs.Tryz.prog ET 10188 c188A = true := by kernel_rfl

def c261A_2 : C := (.seq (.seq (.reg 0 none [m 15 (.t 9) 0, m 16 (.t 10) 1, o 17 (.bin .lss) [.t 15, .t 16] 2]) (.cond (.t 17) .skip (.exit 0))) (.blk 1 (.seq (.reg 0 none [m 18 (.t 9) 0, m 19 (.t 10) 1, o 20 (.bin .add) [.t 18, .t 19] 2, o 21 (.toInt .u64) [.t 20] 3, o 22 (.bin .shr) [.t 21, .c (.d (.int .u64 1))] 4, o 23 (.toInt .i64) [.t 22] 5, m 11 (.t 23) 6]) (.seq (.reg 0 none [m 24 (.t 2) 0, m 25 (.t 0) 1, m 26 (.t 11) 2, o 27 (.ix 2) [.t 25, .t 26] 3, o 28 (.load true 2) [.t 27] 4, m 29 (.t 1) 5, o 30 .dcall [.t 24, .t 28, .t 29] 6, o 31 (.bin .lss) [.t 30, .c (ci 0)] 7]) (.cond (.t 31) (.reg 0 none [m 32 (.t 11) 0, o 33 (.bin .add) [.t 32, .c (ci 1)] 1, m 9 (.t 33) 2]) (.reg 0 none [m 34 (.t 11) 0, m 10 (.t 34) 1]))))))
def c261A_s1 : C := (.seq (.reg 0 none [m 35 (.t 9) 0, m 36 (.t 9) 1, m 37 (.t 8) 2, o 38 (.bin .lss) [.t 36, .t 37] 3, m 39 (.t 38) 4, ⟨some 40, .mov, [.t 2], some (39, true), 0, 5⟩, ⟨some 41, .mov, [.t 0], some (39, true), 0, 6⟩, ⟨some 42, .mov, [.t 9], some (39, true), 0, 7⟩, ⟨some 43, .ix 2, [.t 41, .t 42], some (39, true), 0, 8⟩, ⟨some 44, .load true 2, [.t 43], some (39, true), 0, 9⟩, ⟨some 45, .mov, [.t 1], some (39, true), 0, 10⟩, ⟨some 46, .dcall, [.t 40, .t 44, .t 45], some (39, true), 0, 11⟩, ⟨some 47, .bin .eql, [.t 46, .c (ci 0)], some (39, true), 0, 12⟩, o 48 .pick [.t 39, .t 47, .c cf] 13, m 6 (.t 35) 14, m 7 (.t 48) 15]) .ret)
def c261A_1 : C := (.seq (.reg 0 none [m 6 (.c (ci 0)) 0, m 7 (.c cf) 1]) (.seq (.reg 0 none [m 12 (.t 0) 0, o 13 (.len 1) [.t 12] 1, m 8 (.t 13) 2]) (.seq (.reg 0 none [m 14 (.t 8) 0, m 9 (.c (ci 0)) 1, m 10 (.t 14) 2]) (.seq (.blk 0 (.loop 1125899906844423 true c261A_2)) c261A_s1))))
def c261A : Fn := { fid := 261, np := 3, ntmps := 49, body := (.jn 562949953421319 c261A_1), res := [.tmp 6, .tmp 7] }
def d261A_1 (c : Cx) (t0 t1 t2 : V) (H : List Blk) : X := stepK c.pc c.ic c.n (.jn 562949953421319 c261A_1) (cn 0 49 [(0, t0), (1, t1), (2, t2)]) H (kTop c261A.res)
def k261A_1 (c : Cx) : KT := thenK (stepK c.pc c.ic c.n c261A_s1) (kTop c261A.res)
def k261A_2 (c : Cx) : KT := blkK 0 (k261A_1 c)
def d261A_2 (c : Cx) (m n2 : Nat) (t0 t1 t2 t8 t9 t10 : V) (H : List Blk) : X := jnK (loopsK (stepK c.pc c.ic c.n c261A_2) 1125899906844423 true n2 m) (cn 0 49 [(0, t0), (1, t1), (2, t2), (8, t8), (9, t9), (10, t10)]) H (k261A_2 c) 1125899906844423
def b261A_2 (c : Cx) (r2 : F6) (n2 : Nat) (t0 t1 t2 t8 t9 t10 : V) (H : List Blk) : X := bnd (trimF true n2 [t0, t1, t2, t8, t9, t10] H) fun H => p (aBin .lss t9 t10) fun x1 => condK x1 ((fun (t0 t1 t2 t8 t9 t10 : V) (H : L) (c : Cx) (r2 : F6) => p (aBin .add t9 t10) fun x2 => p (aToInt .u64 x2) fun x3 => p (aBin .shr x3 (.d (.int .u64 1))) fun x4 => p (aToInt .i64 x4) fun x5 => p (aIx 2 t0 x5) fun x6 => (aLoad true 2 x6).go H fun x7 H => callK c.ic [t2, x7, t1] H fun x8 H => p (aBin .lss x8 (ci 0)) fun x9 => condK x9 (p (aBin .add x5 (ci 1)) fun x10 => r2 t0 t1 t2 t8 x10 t10 H) (r2 t0 t1 t2 t8 t9 x5 H)) t0 t1 t2 t8 t9 t10 H c r2) ((fun (t0 t1 t2 t8 t9 : V) (H : L) (c : Cx) => p (aBin .lss t9 t8) fun x11 => guardK x11 true (fun k => (aMov t2).go H k) H fun x12 H => (fun (t0 t1 t9 x11 x12 : V) (H : L) (c : Cx) => guardK x11 true (fun k => (aMov t0).go H k) H fun x13 H => guardK x11 true (fun k => (aMov t9).go H k) H fun x14 H => guardK x11 true (fun k => (aIx 2 x13 x14).go H k) H fun x15 H => guardK x11 true (fun k => (aLoad true 2 x15).go H k) H fun x16 H => (fun (t1 t9 x11 x12 x16 : V) (H : L) (c : Cx) => guardK x11 true (fun k => (aMov t1).go H k) H fun x17 H => guardK x11 true (callK c.ic [x12, x16, x17] H) H fun x18 H => guardK x11 true (fun k => (aBin .eql x18 (ci 0)).go H k) H fun x19 H => p (aPick x11 x19 cf) fun x20 => some (.tup [t9, x20], H)) t1 t9 x11 x12 x16 H c) t0 t1 t9 x11 x12 H c) t0 t1 t2 t8 t9 H c)
def j261A_2 (c : Cx) : Nat → Nat → F6 := recN (fun _ _ _ _ _ _ _ _ => none) fun ih n2 => b261A_2 c (ih n2) n2
theorem o261A_2 (c : Cx) : d261A_2 c = j261A_2 c := by
  unfold j261A_2
  refine recN_ok (by kernel_rfl) fun m => funext fun n2 => ?_
  funext t0 t1 t2 t8 t9 t10 H
  refine Eq.trans (jnK_eq 1125899906844423 _ _ H _) ?_
  kernel_rfl
def b261A_1 (c : Cx) (j2 : Nat → Nat → F6) (t0 t1 t2 : V) (H : List Blk) : X := (aLen 1 t0).go H fun x1 H => j2 c.n H.length t0 t1 t2 x1 (ci 0) x1 H
def j261A_1 (c : Cx) : F3 := b261A_1 c (j261A_2 c)
theorem o261A_1 (c : Cx) : d261A_1 c = j261A_1 c := by
  unfold j261A_1; rw [← o261A_2]
  funext t0 t1 t2 H
  refine Eq.trans (stepK_jn c.pc c.ic c.n _ H _ 562949953421319 c261A_1) ?_
  kernel_rfl
def b261A_0 (c : Cx) (j1 : F3) (t0 t1 t2 : V) (H : List Blk) : X := j1 t0 t1 t2 H
def s261A (c : Cx) (args : List V) (H : List Blk) : X := argsK 3 args (b261A_0 c (j261A_1 c) (getT args 0) (getT args 1) (getT args 2) H)
theorem e261A (pc ic n args H) : runK pc ic n c261A args H = s261A ⟨pc, ic, n⟩ args H := by
  unfold s261A; rw [← o261A_1]
  kernel_rfl
def L261A : Leaf := ⟨c261A, fun pc ic n => s261A ⟨pc, ic, n⟩, e261A⟩
theorem kk261A : chkFn Go.Proofs.Tryz.prog ET 10261 c261A = true := by kernel_rfl

def c276A_2 : C := (.seq (.reg 0 none [o 9 (.bin .lss) [.t 8, .t 7] 0]) (.seq (.cond (.t 9) .skip (.exit 0)) (.seq (.blk 1 (.seq (.reg 0 none [m 10 (.t 8) 0, m 5 (.t 10) 1]) (.seq (.reg 0 none [m 11 (.t 1) 0, m 12 (.t 0) 1, m 13 (.t 5) 2, o 14 (.ix 1) [.t 12, .t 13] 3, o 15 (.load false 1) [.t 14] 4, o 16 .dcall [.t 11, .t 15] 5]) (.cond (.t 16) (.seq (.reg 0 none [m 17 (.t 5) 0, m 4 (.t 17) 1]) .ret) .skip)))) (.reg 0 none [o 18 (.bin .add) [.t 8, .c (ci 1)] 0, m 8 (.t 18) 1]))))
def c276A_s1 : C := (.seq (.reg 0 none [m 4 (.c (ci (-1))) 0]) .ret)
def c276A_1 : C := (.seq (.reg 0 none [m 4 (.c (ci 0)) 0]) (.seq (.seq (.reg 0 none [m 6 (.t 0) 0, o 7 (.len 1) [.t 6] 1, m 8 (.c (ci 0)) 2]) (.blk 0 (.loop 1048963 true c276A_2))) c276A_s1))
def c276A : Fn := { fid := 276, np := 2, ntmps := 19, body := (.jn 524291 c276A_1), res := [.tmp 4] }
def L276A : Leaf := coldL c276A
theorem kk276A : chkFn Go.Proofs.Tryz.prog ET 10276 c276A = true := by kernel_rfl

def c283A_2 : C := (.seq (.seq (.reg 0 none [m 6 (.t 5) 0, o 7 (.fld 1) [.t 2] 1, o 8 (.load false 1) [.t 7] 2, o 9 (.len 1) [.t 8] 3, o 10 (.bin .lss) [.t 6, .t 9] 4]) (.cond (.t 10) .skip (.exit 0))) (.seq (.blk 1 (.seq (.reg 0 none [o 13 (.fld 1) [.t 2] 0, o 14 (.load false 1) [.t 13] 1, m 15 (.t 5) 2, o 16 (.ix 2) [.t 14, .t 15] 3, o 17 (.fld 0) [.t 16] 4, o 18 (.load false 1) [.t 17] 5, m 19 (.t 1) 6, o 20 (.bin .eql) [.t 18, .t 19] 7]) (.cond (.t 20) (.seq (.reg 0 none [m 21 (.t 5) 0, m 4 (.t 21) 1]) .ret) .skip))) (.reg 0 none [m 11 (.t 5) 0, o 12 (.bin .add) [.t 11, .c (ci 1)] 1, m 5 (.t 12) 2])))
def c283A_s1 : C := (.seq (.reg 0 none [m 4 (.c (ci (-1))) 0]) .ret)
def c283A_1 : C := (.seq (.reg 1 none [o 2 (.box 0) [.t 0] 0, m 4 (.c (ci 0)) 1]) (.seq (.seq (.reg 0 none [m 5 (.c (ci 0)) 0]) (.blk 0 (.loop 8388646 false c283A_2))) c283A_s1))
def c283A : Fn := { fid := 283, np := 2, ntmps := 22, body := (.jn 4194307 c283A_1), res := [.tmp 4] }
def d283A_1 (c : Cx) (t0 t1 : V) (H : List Blk) : X := stepK c.pc c.ic c.n (.jn 4194307 c283A_1) (cn 0 22 [(0, t0), (1, t1)]) H (kTop c283A.res)
def k283A_1 (c : Cx) : KT := thenK (stepK c.pc c.ic c.n c283A_s1) (kTop c283A.res)
def k283A_2 (c : Cx) : KT := blkK 0 (k283A_1 c)
def d283A_2 (c : Cx) (m n2 : Nat) (t1 t2 t5 : V) (H : List Blk) : X := jnK (loopsK (stepK c.pc c.ic c.n c283A_2) 8388646 false n2 m) (cn 0 22 [(1, t1), (2, t2), (5, t5)]) H (k283A_2 c) 8388646
def b283A_2 (c : Cx) (r2 : F3) (n2 : Nat) (t1 t2 t5 : V) (H : List Blk) : X := p (aFld 1 t2) fun x1 => (aLoad false 1 x1).go H fun x2 H => (aLen 1 x2).go H fun x3 H => p (aBin .lss t5 x3) fun x4 => condK x4 ((fun (t1 t2 t5 : V) (H : L) (r2 : F3) => p (aFld 1 t2) fun x5 => (aLoad false 1 x5).go H fun x6 H => (fun (t1 t2 t5 x6 : V) (H : L) (r2 : F3) => p (aIx 2 x6 t5) fun x7 => p (aFld 0 x7) fun x8 => (aLoad false 1 x8).go H fun x9 H => p (aBin .eql x9 t1) fun x10 => condK x10 (some (t5, H)) (p (aBin .add t5 (ci 1)) fun x11 => r2 t1 t2 x11 H)) t1 t2 t5 x6 H r2) t1 t2 t5 H r2) (some ((ci (-1)), H))
def j283A_2 (c : Cx) : Nat → Nat → F3 := recN (fun _ _ _ _ _ => none) fun ih n2 => b283A_2 c (ih n2) n2
theorem o283A_2 (c : Cx) : d283A_2 c = j283A_2 c := by
  unfold j283A_2
  refine recN_ok (by kernel_rfl) fun m => funext fun n2 => ?_
  funext t1 t2 t5 H
  refine Eq.trans (jnK_eq 8388646 _ _ H _) ?_
  kernel_rfl
def b283A_1 (c : Cx) (j2 : Nat → Nat → F3) (t0 t1 : V) (H : List Blk) : X := newK 1 H fun q H => (aBox (q + 0) t0).go H fun x1 H => j2 c.n H.length t1 x1 (ci 0) H
def j283A_1 (c : Cx) : F2 := b283A_1 c (j283A_2 c)
theorem o283A_1 (c : Cx) : d283A_1 c = j283A_1 c := by
  unfold j283A_1; rw [← o283A_2]
  funext t0 t1 H
  refine Eq.trans (stepK_jn c.pc c.ic c.n _ H _ 4194307 c283A_1) ?_
  kernel_rfl
def b283A_0 (c : Cx) (j1 : F2) (t0 t1 : V) (H : List Blk) : X := j1 t0 t1 H
def s283A (c : Cx) (args : List V) (H : List Blk) : X := argsK 2 args (b283A_0 c (j283A_1 c) (getT args 0) (getT args 1) H)
theorem e283A (pc ic n args H) : runK pc ic n c283A args H = s283A ⟨pc, ic, n⟩ args H := by
  unfold s283A; rw [← o283A_1]
  kernel_rfl
def L283A : Leaf := ⟨c283A, fun pc ic n => s283A ⟨pc, ic, n⟩, e283A⟩
theorem kk283A : chkFn Go.Proofs.Tryz.prog ET 10283 c283A = true := by kernel_rfl

end
end Go.Vm.T
