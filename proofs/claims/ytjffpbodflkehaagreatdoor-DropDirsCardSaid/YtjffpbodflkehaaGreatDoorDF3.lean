/- Functions of the program: the machine's code, plain Lean, their equality; that the code is the program's. Printed by a program of mine. -/
import Derived.Test.YtjffpbodflkehaaGreatDoorDZ
import Derived.KernelRfl
set_option maxRecDepth 100000
set_option linter.unusedVariables false
namespace Go.Vm.T
open Go.Vm.I
noncomputable section
def c243_3 : C := (.seq (.seq (.reg 0 none [m 15 (.t 7) 0, o 16 (.fld 3) [.t 2] 1, o 17 (.load false 1) [.t 16] 2, m 18 (.t 6) 3, o 19 (.ix 8) [.t 17, .t 18] 4, o 20 (.fld 7) [.t 19] 5, o 21 (.load false 1) [.t 20] 6, o 22 (.len 1) [.t 21] 7, o 23 (.bin .lss) [.t 15, .t 22] 8]) (.cond (.t 23) .skip (.exit 2))) (.seq (.blk 3 (.seq (.reg 0 none [o 26 (.fld 3) [.t 2] 0, o 27 (.load false 1) [.t 26] 1, m 28 (.t 6) 2, o 29 (.ix 8) [.t 27, .t 28] 3, o 30 (.fld 7) [.t 29] 4, o 31 (.load false 1) [.t 30] 5, m 32 (.t 7) 6, o 33 (.ix 2) [.t 31, .t 32] 7, o 34 (.fld 1) [.t 33] 8, o 35 (.load false 1) [.t 34] 9, m 36 (.t 1) 10, o 37 (.bin .eql) [.t 35, .t 36] 11]) (.cond (.t 37) (.reg 0 none [m 38 (.t 5) 0, o 39 (.bin .add) [.t 38, .c (ci 1)] 1, m 5 (.t 39) 2]) .skip))) (.reg 0 none [m 24 (.t 7) 0, o 25 (.bin .add) [.t 24, .c (ci 1)] 1, m 7 (.t 25) 2])))
def c243_s1 : C := (.reg 0 none [m 13 (.t 6) 0, o 14 (.bin .add) [.t 13, .c (ci 1)] 1, m 6 (.t 14) 2])
def c243_2 : C := (.seq (.seq (.reg 0 none [m 8 (.t 6) 0, o 9 (.fld 3) [.t 2] 1, o 10 (.load false 1) [.t 9] 2, o 11 (.len 1) [.t 10] 3, o 12 (.bin .lss) [.t 8, .t 11] 4]) (.cond (.t 12) .skip (.exit 0))) (.seq (.blk 1 (.seq (.reg 0 none [m 7 (.c (ci 0)) 0]) (.blk 2 (.loop 6597069766886 false c243_3)))) c243_s1))
def c243_s2 : C := (.seq (.reg 0 none [m 40 (.t 5) 0, m 4 (.t 40) 1]) .ret)
def c243_1 : C := (.seq (.reg 1 none [o 2 (.box 0) [.t 0] 0, m 4 (.c (ci 0)) 1]) (.seq (.reg 0 none [m 5 (.c (ci 0)) 0]) (.seq (.seq (.reg 0 none [m 6 (.c (ci 0)) 0]) (.blk 0 (.loop 4398046511206 false c243_2))) c243_s2)))
def c243 : Fn := { fid := 243, np := 2, ntmps := 41, body := (.jn 2199023255555 c243_1), res := [.tmp 4] }
def d243_1 (c : Cx) (t0 t1 : V) (H : List Blk) : X := stepK c.pc c.ic c.n (.jn 2199023255555 c243_1) (cn 0 41 [(0, t0), (1, t1)]) H (kTop c243.res)
def k243_1 (c : Cx) : KT := thenK (stepK c.pc c.ic c.n c243_s2) (kTop c243.res)
def k243_2 (c : Cx) : KT := blkK 0 (k243_1 c)
def d243_2 (c : Cx) (m n2 : Nat) (t1 t2 t5 t6 : V) (H : List Blk) : X := jnK (loopsK (stepK c.pc c.ic c.n c243_2) 4398046511206 false n2 m) (cn 0 41 [(1, t1), (2, t2), (5, t5), (6, t6)]) H (k243_2 c) 4398046511206
def k243_3 (c : Cx) (m2 n2 : Nat) : KT := thenK (fun ts H k => jnK (loopsK (stepK c.pc c.ic c.n c243_2) 4398046511206 false n2 m2) (maskT 4398046511206 0 ts) H k 4398046511206) (k243_2 c)
def k243_4 (c : Cx) (m2 n2 : Nat) : KT := thenK (stepK c.pc c.ic c.n c243_s1) (k243_3 c m2 n2)
def k243_5 (c : Cx) (m2 n2 : Nat) : KT := blkK 1 (k243_4 c m2 n2)
def k243_6 (c : Cx) (m2 n2 : Nat) : KT := blkK 2 (k243_5 c m2 n2)
def d243_3 (c : Cx) (m2 n2 : Nat) (m n3 : Nat) (t1 t2 t5 t6 t7 : V) (H : List Blk) : X := jnK (loopsK (stepK c.pc c.ic c.n c243_3) 6597069766886 false n3 m) (cn 0 41 [(1, t1), (2, t2), (5, t5), (6, t6), (7, t7)]) H (k243_6 c m2 n2) 6597069766886
def b243_3 (c : Cx) (r2 : F4) (r3 : F5) (n3 : Nat) (t1 t2 t5 t6 t7 : V) (H : List Blk) : X := p (aFld 3 t2) fun x1 => (aLoad false 1 x1).go H fun x2 H => p (aIx 8 x2 t6) fun x3 => (fun (t1 t2 t5 t6 t7 x3 : V) (H : L) (r2 : F4) (r3 : F5) => p (aFld 7 x3) fun x4 => (aLoad false 1 x4).go H fun x5 H => (aLen 1 x5).go H fun x6 H => p (aBin .lss t7 x6) fun x7 => condK x7 ((fun (t1 t2 t5 t6 t7 : V) (H : L) (r3 : F5) => p (aFld 3 t2) fun x8 => (fun (t1 t2 t5 t6 t7 x8 : V) (H : L) (r3 : F5) => (aLoad false 1 x8).go H fun x9 H => p (aIx 8 x9 t6) fun x10 => p (aFld 7 x10) fun x11 => (aLoad false 1 x11).go H fun x12 H => (fun (t1 t2 t5 t6 t7 x12 : V) (H : L) (r3 : F5) => p (aIx 2 x12 t7) fun x13 => p (aFld 1 x13) fun x14 => (aLoad false 1 x14).go H fun x15 H => p (aBin .eql x15 t1) fun x16 => condK x16 (p (aBin .add t5 (ci 1)) fun x17 => p (aBin .add t7 (ci 1)) fun x18 => r3 t1 t2 x17 t6 x18 H) (p (aBin .add t7 (ci 1)) fun x19 => r3 t1 t2 t5 t6 x19 H)) t1 t2 t5 t6 t7 x12 H r3) t1 t2 t5 t6 t7 x8 H r3) t1 t2 t5 t6 t7 H r3) (p (aBin .add t6 (ci 1)) fun x20 => r2 t1 t2 t5 x20 H)) t1 t2 t5 t6 t7 x3 H r2 r3
def j243_3 (c : Cx) (r2 : F4) : Nat → Nat → F5 := recN (fun _ _ _ _ _ _ _ => none) fun ih n3 => b243_3 c r2 (ih n3) n3
theorem o243_3 (c : Cx) (m2 n2 : Nat) : d243_3 c m2 n2 = j243_3 c (d243_2 c m2 n2) := by
  unfold j243_3
  refine recN_ok (by kernel_rfl) fun m => funext fun n3 => ?_
  funext t1 t2 t5 t6 t7 H
  refine Eq.trans (jnK_eq 6597069766886 _ _ H _) ?_
  kernel_rfl
def b243_2 (c : Cx) (j3 : Nat → Nat → F5) (n2 : Nat) (t1 t2 t5 t6 : V) (H : List Blk) : X := p (aFld 3 t2) fun x1 => (aLoad false 1 x1).go H fun x2 H => (aLen 1 x2).go H fun x3 H => p (aBin .lss t6 x3) fun x4 => condK x4 (j3 c.n H.length t1 t2 t5 t6 (ci 0) H) (some (t5, H))
def j243_2 (c : Cx) : Nat → Nat → F4 := recN (fun _ _ _ _ _ _ => none) fun ih n2 => b243_2 c (j243_3 c (ih n2)) n2
theorem o243_2 (c : Cx) : d243_2 c = j243_2 c := by
  unfold j243_2
  refine recN_ok (by kernel_rfl) fun m => funext fun n2 => ?_
  simp only [← o243_3]
  funext t1 t2 t5 t6 H
  refine Eq.trans (jnK_eq 4398046511206 _ _ H _) ?_
  kernel_rfl
def b243_1 (c : Cx) (j2 : Nat → Nat → F4) (t0 t1 : V) (H : List Blk) : X := newK 1 H fun q H => (aBox (q + 0) t0).go H fun x1 H => j2 c.n H.length t1 x1 (ci 0) (ci 0) H
def j243_1 (c : Cx) : F2 := b243_1 c (j243_2 c)
theorem o243_1 (c : Cx) : d243_1 c = j243_1 c := by
  unfold j243_1; rw [← o243_2]
  funext t0 t1 H
  refine Eq.trans (stepK_jn c.pc c.ic c.n _ H _ 2199023255555 c243_1) ?_
  kernel_rfl
def b243_0 (c : Cx) (j1 : F2) (t0 t1 : V) (H : List Blk) : X := j1 t0 t1 H
def s243 (c : Cx) (args : List V) (H : List Blk) : X := argsK 2 args (b243_0 c (j243_1 c) (getT args 0) (getT args 1) H)
theorem e243 (pc ic n args H) : runK pc ic n c243 args H = s243 ⟨pc, ic, n⟩ args H := by
  unfold s243; rw [← o243_1]
  kernel_rfl
def L243 : Leaf := ⟨c243, fun pc ic n => s243 ⟨pc, ic, n⟩, e243⟩
theorem kk243 : chkFn Go.Proofs.Tryz.prog ET 243 c243 = true := by kernel_rfl

def c244_3 : C := (.seq (.reg 0 none [m 60 (.t 14) 0, o 61 (.un .not) [.t 60] 1]) (.cond (.t 61) (.seq (.reg 0 none [m 62 (.t 3) 0, m 8 (.t 62) 1, m 9 (.c cf) 2]) .ret) .skip))
def c244_s1 : C := (.reg 0 none [m 35 (.t 12) 0, o 36 (.bin .add) [.t 35, .c (ci 1)] 1, m 12 (.t 36) 2])
def l244_0 : List O := [o 47 (.load true 4) [.t 4] 0, m 48 (.t 13) 1, m 49 (.t 2) 2, ⟨some 50, .bin .sub, [.t 49, .c (ci 1)], none, 4, 3⟩, o 51 (.bsl 1 [(.int .i64 0)] 0 []) [] 4, m 52 (.t 3) 5, ⟨some 53, .app 0 1 8, [.t 51, .t 52], none, 48, 6⟩, m 54 (.t 13) 7, ⟨some 55, .bsl 1 [(.int .i64 0)] 1 [0], [.t 54], none, 128, 8⟩, ⟨some 56, .app 1 1 8, [.t 53, .t 55], none, 496, 9⟩, ⟨some 57, .call 244, [.t 47, .t 48, .t 50, .t 56], none, 1023, 10⟩, ⟨some 46, .mov, [.t 57], none, 2047, 11⟩, ⟨some 58, .ext 0, [.t 46], none, 4095, 12⟩, ⟨some 59, .ext 1, [.t 46], none, 4095, 13⟩, ⟨some 3, .mov, [.t 58], none, 8191, 14⟩, ⟨some 14, .mov, [.t 59], none, 32767, 15⟩]
def c244_2 : C := (.seq (.seq (.reg 0 none [m 30 (.t 12) 0, o 31 (.fld 7) [.t 10] 1, o 32 (.load false 1) [.t 31] 2, o 33 (.len 1) [.t 32] 3, o 34 (.bin .lss) [.t 30, .t 33] 4]) (.cond (.t 34) .skip (.exit 0))) (.seq (.blk 1 (.seq (.reg 0 none [o 37 (.fld 7) [.t 10] 0, o 38 (.load false 1) [.t 37] 1, m 39 (.t 12) 2, o 40 (.ix 2) [.t 38, .t 39] 3, o 41 (.fld 1) [.t 40] 4, o 42 (.load false 1) [.t 41] 5, m 13 (.t 42) 6]) (.seq (.seq (.reg 0 none [m 43 (.t 3) 0, m 44 (.t 13) 1, o 45 (.call 287) [.t 43, .t 44] 2]) (.cond (.t 45) (.exit 1) .skip)) (.seq (.reg 0 none [m 14 (.c ct) 0]) (.seq (.reg 2 (some ⟨false, [0, 1, 2, 3, 4, 5, 6, 7, 8, 9, 10, 11, 12, 14, 13, 15], 64⟩) l244_0) (.jn 55340232221128676380 c244_3)))))) c244_s1))
def c244_s2 : C := (.seq (.reg 0 none [m 63 (.t 3) 0, m 8 (.t 63) 1, m 9 (.c ct) 2]) .ret)
def c244_1 : C := (.seq (.reg 1 none [o 4 (.box 0) [.t 0] 0, m 8 (.c .nilS) 1, m 9 (.c cf) 2]) (.seq (.reg 1 none [o 16 (.load true 4) [.t 4] 0, m 17 (.t 1) 1, o 18 (.call 16) [.t 16, .t 17] 2, m 15 (.t 18) 3, o 19 (.ext 0) [.t 15] 4, o 20 (.ext 1) [.t 15] 5, o 10 (.alloc 0 z1) [] 6, ⟨none, .store 8, [.t 10, .t 19], none, 0, 7⟩, m 11 (.t 20) 8]) (.seq (.seq (.reg 0 none [m 21 (.t 2) 0, o 22 (.bin .eql) [.t 21, .c (ci 0)] 1, m 23 (.t 22) 2, ⟨some 24, .fld 7, [.t 10], some (23, true), 0, 3⟩, ⟨some 25, .load false 1, [.t 24], some (23, true), 0, 4⟩, ⟨some 26, .len 1, [.t 25], some (23, true), 0, 5⟩, ⟨some 27, .bin .gtr, [.t 26, .c (ci 0)], some (23, true), 0, 6⟩, o 28 .pick [.t 23, .t 27, .c cf] 7]) (.cond (.t 28) (.seq (.reg 0 none [m 29 (.t 3) 0, m 8 (.t 29) 1, m 9 (.c cf) 2]) .ret) .skip)) (.seq (.seq (.reg 0 none [m 12 (.c (ci 0)) 0]) (.blk 0 (.loop 36893488147419108380 true c244_2))) c244_s2))))
def c244 : Fn := { fid := 244, np := 4, ntmps := 64, body := (.jn 18446744073709551631 c244_1), res := [.tmp 8, .tmp 9] }
def d244_1 (c : Cx) (t0 t1 t2 t3 : V) (H : List Blk) : X := stepK c.pc c.ic c.n (.jn 18446744073709551631 c244_1) (cn 0 64 [(0, t0), (1, t1), (2, t2), (3, t3)]) H (kTop c244.res)
def k244_1 (c : Cx) : KT := thenK (stepK c.pc c.ic c.n c244_s2) (kTop c244.res)
def k244_2 (c : Cx) : KT := blkK 0 (k244_1 c)
def d244_2 (c : Cx) (m n2 : Nat) (t2 t3 t4 t10 t12 : V) (H : List Blk) : X := jnK (loopsK (stepK c.pc c.ic c.n c244_2) 36893488147419108380 true n2 m) (cn 0 64 [(2, t2), (3, t3), (4, t4), (10, t10), (12, t12)]) H (k244_2 c) 36893488147419108380
def k244_3 (c : Cx) (m2 n2 : Nat) : KT := thenK (fun ts H k => jnK (loopsK (stepK c.pc c.ic c.n c244_2) 36893488147419108380 true n2 m2) (maskT 36893488147419108380 0 ts) H k 36893488147419108380) (k244_2 c)
def k244_4 (c : Cx) (m2 n2 : Nat) : KT := thenK (stepK c.pc c.ic c.n c244_s1) (k244_3 c m2 n2)
def k244_5 (c : Cx) (m2 n2 : Nat) : KT := blkK 1 (k244_4 c m2 n2)
def d244_3 (c : Cx) (m2 n2 : Nat) (t2 t3 t4 t10 t12 t14 : V) (H : List Blk) : X := stepK c.pc c.ic c.n (.jn 55340232221128676380 c244_3) (cn 0 64 [(2, t2), (3, t3), (4, t4), (10, t10), (12, t12), (14, t14)]) H (k244_5 c m2 n2)
def b244_3 (c : Cx) (r2 : F5) (t2 t3 t4 t10 t12 t14 : V) (H : List Blk) : X := p (aUn .not t14) fun x1 => condK x1 (some (.tup [t3, cf], H)) (p (aBin .add t12 (ci 1)) fun x2 => r2 t2 t3 t4 t10 x2 H)
def j244_3 (c : Cx) (r2 : F5) : F6 := b244_3 c r2
theorem o244_3 (c : Cx) (m2 n2 : Nat) : d244_3 c m2 n2 = j244_3 c (d244_2 c m2 n2) := by
  unfold j244_3
  funext t2 t3 t4 t10 t12 t14 H
  refine Eq.trans (stepK_jn c.pc c.ic c.n _ H _ 55340232221128676380 c244_3) ?_
  kernel_rfl
def b244_2 (c : Cx) (r2 : F5) (j3 : F6) (n2 : Nat) (t2 t3 t4 t10 t12 : V) (H : List Blk) : X := bnd (trimF true n2 [t2, t3, t4, t10, t12] H) fun H => p (aFld 7 t10) fun x1 => (aLoad false 1 x1).go H fun x2 H => (aLen 1 x2).go H fun x3 H => p (aBin .lss t12 x3) fun x4 => condK x4 ((fun (t2 t3 t4 t10 t12 x1 x2 x3 x4 : V) (H : L) (c : Cx) (j3 : F6) (r2 : F5) => p (aFld 7 t10) fun x5 => (fun (t2 t3 t4 t10 t12 x1 x2 x3 x4 x5 : V) (H : L) (c : Cx) (j3 : F6) (r2 : F5) => (aLoad false 1 x5).go H fun x6 H => p (aIx 2 x6 t12) fun x7 => p (aFld 1 x7) fun x8 => (aLoad false 1 x8).go H fun x9 H => p (aCall c.pc 287 [t3, x9]) fun x10 => condK x10 (p (aBin .add t12 (ci 1)) fun x11 => r2 t2 t3 t4 t10 x11 H) ((fun (t2 t3 t4 t10 t12 x1 x2 x3 x4 x5 x6 x7 x8 x9 x10 : V) (H : L) (c : Cx) (j3 : F6) => newK 2 H fun q H => drawnK c.pc c.ic l244_0 q (cn 0 64 [(2, t2), (3, t3), (4, t4), (10, t10), (12, t12), (13, x9), (14, ct), (30, t12), (31, x1), (32, x2), (33, x3), (34, x4), (37, x5), (38, x6), (39, t12), (40, x7), (41, x8), (42, x9), (43, t3), (44, x9), (45, x10)]) H fun ts11 H => j3 (getT ts11 2) (getT ts11 3) (getT ts11 4) (getT ts11 10) (getT ts11 12) (getT ts11 14) H) t2 t3 t4 t10 t12 x1 x2 x3 x4 x5 x6 x7 x8 x9 x10 H c j3)) t2 t3 t4 t10 t12 x1 x2 x3 x4 x5 H c j3 r2) t2 t3 t4 t10 t12 x1 x2 x3 x4 H c j3 r2) (some (.tup [t3, ct], H))
def j244_2 (c : Cx) : Nat → Nat → F5 := recN (fun _ _ _ _ _ _ _ => none) fun ih n2 => b244_2 c (ih n2) (j244_3 c (ih n2)) n2
theorem o244_2 (c : Cx) : d244_2 c = j244_2 c := by
  unfold j244_2
  refine recN_ok (by kernel_rfl) fun m => funext fun n2 => ?_
  simp only [← o244_3]
  funext t2 t3 t4 t10 t12 H
  refine Eq.trans (jnK_eq 36893488147419108380 _ _ H _) ?_
  kernel_rfl
def b244_1 (c : Cx) (j2 : Nat → Nat → F5) (t0 t1 t2 t3 : V) (H : List Blk) : X := newK 1 H fun q H => (aBox (q + 0) t0).go H fun x1 H => newK 1 H fun q H => (aLoad true 4 x1).go H fun x2 H => p (aCall c.pc 16 [x2, t1]) fun x3 => (fun (t2 t3 x1 x3 : V) (q : Nat) (H : L) (c : Cx) (j2 : Nat → Nat → F5) => p (aExt 0 x3) fun x4 => p (aExt 1 x3) fun x5 => (aAlloc (q + 0) z1).go H fun x6 H => (aStore 8 x6 x4).go H fun _ H => p (aBin .eql t2 (ci 0)) fun x7 => guardK x7 true (fun k => (aFld 7 x6).go H k) H fun x8 H => (fun (t2 t3 x1 x6 x7 x8 : V) (H : L) (c : Cx) (j2 : Nat → Nat → F5) => guardK x7 true (fun k => (aLoad false 1 x8).go H k) H fun x9 H => guardK x7 true (fun k => (aLen 1 x9).go H k) H fun x10 H => guardK x7 true (fun k => (aBin .gtr x10 (ci 0)).go H k) H fun x11 H => p (aPick x7 x11 cf) fun x12 => condK x12 (some (.tup [t3, cf], H)) (j2 c.n H.length t2 t3 x1 x6 (ci 0) H)) t2 t3 x1 x6 x7 x8 H c j2) t2 t3 x1 x3 q H c j2
def j244_1 (c : Cx) : F4 := b244_1 c (j244_2 c)
theorem o244_1 (c : Cx) : d244_1 c = j244_1 c := by
  unfold j244_1; rw [← o244_2]
  funext t0 t1 t2 t3 H
  refine Eq.trans (stepK_jn c.pc c.ic c.n _ H _ 18446744073709551631 c244_1) ?_
  kernel_rfl
def b244_0 (c : Cx) (j1 : F4) (t0 t1 t2 t3 : V) (H : List Blk) : X := j1 t0 t1 t2 t3 H
def s244 (c : Cx) (args : List V) (H : List Blk) : X := argsK 4 args (b244_0 c (j244_1 c) (getT args 0) (getT args 1) (getT args 2) (getT args 3) H)
theorem e244 (pc ic n args H) : runK pc ic n c244 args H = s244 ⟨pc, ic, n⟩ args H := by
  unfold s244; rw [← o244_1]
  kernel_rfl
def L244 : Leaf := ⟨c244, fun pc ic n => s244 ⟨pc, ic, n⟩, e244⟩
theorem kk244 : chkFn Go.Proofs.Tryz.prog ET 244 c244 = true := by kernel_rfl

def c246_2 : C := (.seq (.seq (.reg 0 none [m 39 (.t 11) 0, m 40 (.t 2) 1, o 41 (.len 1) [.t 40] 2, o 42 (.bin .lss) [.t 39, .t 41] 3]) (.cond (.t 42) .skip (.exit 0))) (.seq (.blk 1 (.reg 0 (some ⟨true, [], 80⟩) [o 45 (.load true 4) [.t 4] 0, m 46 (.t 2) 1, m 47 (.t 11) 2, ⟨some 48, .ix 2, [.t 46, .t 47], none, 6, 3⟩, ⟨some 49, .load true 2, [.t 48], none, 14, 4⟩, m 50 (.t 10) 5, ⟨some 51, .call 220, [.t 45, .t 49, .t 50], none, 63, 6⟩, ⟨none, .store 4, [.t 4, .t 51], none, 127, 7⟩])) (.reg 0 none [m 43 (.t 11) 0, o 44 (.bin .add) [.t 43, .c (ci 1)] 1, m 11 (.t 44) 2])))
def c246_3 : C := (.seq (.seq (.reg 0 none [m 63 (.t 13) 0, m 64 (.t 12) 1, o 65 (.len 1) [.t 64] 2, o 66 (.bin .lss) [.t 63, .t 65] 3]) (.cond (.t 66) .skip (.exit 2))) (.seq (.blk 3 (.reg 0 (some ⟨true, [], 80⟩) [o 69 (.load true 7) [.t 3] 0, o 70 (.load true 4) [.t 4] 1, o 71 (.load true 7) [.t 3] 2, m 72 (.t 2) 3, m 73 (.t 12) 4, m 74 (.t 13) 5, ⟨some 75, .ix 1, [.t 73, .t 74], none, 48, 6⟩, ⟨some 76, .load false 1, [.t 75], none, 112, 7⟩, ⟨some 77, .call 47, [.t 71, .t 72, .t 76], none, 252, 8⟩, ⟨some 78, .call 246, [.t 69, .t 70, .t 77], none, 511, 9⟩, ⟨none, .store 4, [.t 4, .t 78], none, 1023, 10⟩])) (.reg 0 none [m 67 (.t 13) 0, o 68 (.bin .add) [.t 67, .c (ci 1)] 1, m 13 (.t 68) 2])))
def c246_s1 : C := (.seq (.reg 0 none [o 79 (.load true 4) [.t 4] 0, ⟨none, .store 4, [.t 6, .t 79], none, 0, 1⟩]) .ret)
def c246_s2 : C := (.seq (.seq (.reg 0 none [m 52 (.t 9) 0, o 53 (.un .not) [.t 52] 1]) (.cond (.t 53) (.seq (.reg 0 (some ⟨true, [], 80⟩) [o 54 (.load true 4) [.t 4] 0, m 55 (.t 10) 1, m 56 (.t 2) 2, ⟨some 57, .ix 2, [.t 56, .c (ci 0)], none, 4, 3⟩, ⟨some 58, .load true 2, [.t 57], none, 12, 4⟩, ⟨some 59, .call 216, [.t 54, .t 55, .t 58], none, 31, 5⟩, ⟨none, .store 4, [.t 6, .t 59], none, 63, 6⟩]) .ret) .skip)) (.seq (.reg 0 none [o 60 (.load true 7) [.t 3] 0, m 61 (.t 2) 1, o 62 (.call 104) [.t 60, .t 61] 2, m 12 (.t 62) 3]) (.seq (.seq (.reg 0 none [m 13 (.c (ci 0)) 0]) (.blk 2 (.loop 3626777458843887524130908 false c246_3))) c246_s1)))
def c246_1 : C := (.seq (.reg 3 none [o 3 (.box 0) [.t 0] 0, o 4 (.box 1) [.t 1] 1, o 6 (.alloc 2 z10) [] 2]) (.seq (.reg 0 (some ⟨true, [0, 1, 2, 3, 4, 5, 6, 8, 7, 9], 80⟩) [o 15 (.load true 4) [.t 4] 0, m 16 (.t 2) 1, ⟨some 17, .ix 2, [.t 16, .c (ci 0)], none, 2, 2⟩, ⟨some 18, .load true 2, [.t 17], none, 6, 3⟩, ⟨some 19, .call 14, [.t 15, .t 18], none, 15, 4⟩, ⟨some 14, .mov, [.t 19], none, 31, 5⟩, ⟨some 20, .ext 0, [.t 14], none, 63, 6⟩, ⟨some 21, .ext 1, [.t 14], none, 63, 7⟩, ⟨some 7, .mov, [.t 20], none, 127, 8⟩, ⟨some 8, .mov, [.t 21], none, 511, 9⟩]) (.seq (.reg 0 (some ⟨true, [], 80⟩) [o 22 (.load true 7) [.t 3] 0, m 23 (.t 2) 1, ⟨some 24, .ix 2, [.t 23, .c (ci 0)], none, 2, 2⟩, ⟨some 25, .load true 2, [.t 24], none, 6, 3⟩, ⟨some 26, .call 46, [.t 22, .t 25], none, 15, 4⟩, ⟨some 9, .mov, [.t 26], none, 31, 5⟩]) (.seq (.seq (.reg 0 none [m 27 (.t 8) 0, m 28 (.t 27) 1, ⟨some 29, .mov, [.t 9], some (28, true), 0, 2⟩, ⟨some 30, .un .not, [.t 29], some (28, true), 0, 3⟩, o 31 .pick [.t 28, .t 30, .c cf] 4]) (.cond (.t 31) (.seq (.reg 0 none [o 32 (.load true 4) [.t 4] 0, ⟨none, .store 4, [.t 6, .t 32], none, 0, 1⟩]) .ret) .skip)) (.seq (.reg 0 none [o 33 (.fld 0) [.t 4] 0, o 34 (.load false 1) [.t 33] 1, m 10 (.t 34) 2]) (.seq (.reg 0 none [o 35 (.fld 0) [.t 4] 0, o 36 (.load false 1) [.t 35] 1, o 37 (.bin .add) [.t 36, .c (ci 1)] 2, o 38 (.fld 0) [.t 4] 3, ⟨none, .store 1, [.t 38, .t 37], none, 0, 4⟩]) (.seq (.seq (.reg 0 none [m 11 (.c (ci 0)) 0]) (.blk 0 (.loop 2417851639229258349416028 false c246_2))) c246_s2)))))))
def c246 : Fn := { fid := 246, np := 3, ntmps := 80, body := (.jn 1208925819614629174706183 c246_1), res := [.cell 6 true 4] }
def d246_1 (c : Cx) (t0 t1 t2 : V) (H : List Blk) : X := stepK c.pc c.ic c.n (.jn 1208925819614629174706183 c246_1) (cn 0 80 [(0, t0), (1, t1), (2, t2)]) H (kTop c246.res)
def k246_1 (c : Cx) : KT := thenK (stepK c.pc c.ic c.n c246_s2) (kTop c246.res)
def k246_2 (c : Cx) : KT := blkK 0 (k246_1 c)
def d246_2 (c : Cx) (m n2 : Nat) (t2 t3 t4 t6 t9 t10 t11 : V) (H : List Blk) : X := jnK (loopsK (stepK c.pc c.ic c.n c246_2) 2417851639229258349416028 false n2 m) (cn 0 80 [(2, t2), (3, t3), (4, t4), (6, t6), (9, t9), (10, t10), (11, t11)]) H (k246_2 c) 2417851639229258349416028
def k246_3 (c : Cx) : KT := thenK (stepK c.pc c.ic c.n c246_s1) (kTop c246.res)
def k246_4 (c : Cx) : KT := blkK 2 (k246_3 c)
def d246_3 (c : Cx) (m n3 : Nat) (t2 t3 t4 t6 t12 t13 : V) (H : List Blk) : X := jnK (loopsK (stepK c.pc c.ic c.n c246_3) 3626777458843887524130908 false n3 m) (cn 0 80 [(2, t2), (3, t3), (4, t4), (6, t6), (12, t12), (13, t13)]) H (k246_4 c) 3626777458843887524130908
def b246_3 (c : Cx) (r3 : F6) (n3 : Nat) (t2 t3 t4 t6 t12 t13 : V) (H : List Blk) : X := (aLen 1 t12).go H fun x1 H => p (aBin .lss t13 x1) fun x2 => condK x2 ((fun (t2 t3 t4 t6 t12 t13 : V) (H : L) (c : Cx) (r3 : F6) => (aLoad true 7 t3).go H fun x3 H => (aLoad true 4 t4).go H fun x4 H => (aLoad true 7 t3).go H fun x5 H => p (aIx 1 t12 t13) fun x6 => (fun (t2 t3 t4 t6 t12 t13 x3 x4 x5 x6 : V) (H : L) (c : Cx) (r3 : F6) => (aLoad false 1 x6).go H fun x7 H => p (aCall c.pc 47 [x5, t2, x7]) fun x8 => p (aCall c.pc 246 [x3, x4, x8]) fun x9 => (aStore 4 t4 x9).go H fun _ H => p (aBin .add t13 (ci 1)) fun x10 => r3 t2 t3 t4 t6 t12 x10 H) t2 t3 t4 t6 t12 t13 x3 x4 x5 x6 H c r3) t2 t3 t4 t6 t12 t13 H c r3) ((aLoad true 4 t4).go H fun x11 H => (aStore 4 t6 x11).go H fun _ H => bnd (loadV true 4 t6 H) fun x12 => some (x12, H))
def j246_3 (c : Cx) : Nat → Nat → F6 := recN (fun _ _ _ _ _ _ _ _ => none) fun ih n3 => b246_3 c (ih n3) n3
theorem o246_3 (c : Cx) : d246_3 c = j246_3 c := by
  unfold j246_3
  refine recN_ok (by kernel_rfl) fun m => funext fun n3 => ?_
  funext t2 t3 t4 t6 t12 t13 H
  refine Eq.trans (jnK_eq 3626777458843887524130908 _ _ H _) ?_
  kernel_rfl
def b246_2 (c : Cx) (r2 : F7) (j3 : Nat → Nat → F6) (n2 : Nat) (t2 t3 t4 t6 t9 t10 t11 : V) (H : List Blk) : X := (aLen 1 t2).go H fun x1 H => p (aBin .lss t11 x1) fun x2 => condK x2 ((fun (t2 t3 t4 t6 t9 t10 t11 : V) (H : L) (c : Cx) (r2 : F7) => (aLoad true 4 t4).go H fun x3 H => (fun (t2 t3 t4 t6 t9 t10 t11 x3 : V) (H : L) (c : Cx) (r2 : F7) => p (aIx 2 t2 t11) fun x4 => (aLoad true 2 x4).go H fun x5 H => p (aCall c.pc 220 [x3, x5, t10]) fun x6 => (aStore 4 t4 x6).go H fun _ H => p (aBin .add t11 (ci 1)) fun x7 => r2 t2 t3 t4 t6 t9 t10 x7 H) t2 t3 t4 t6 t9 t10 t11 x3 H c r2) t2 t3 t4 t6 t9 t10 t11 H c r2) ((fun (t2 t3 t4 t6 t9 t10 : V) (H : L) (c : Cx) (j3 : Nat → Nat → F6) => p (aUn .not t9) fun x8 => condK x8 ((fun (t2 t4 t6 t10 : V) (H : L) (c : Cx) => (aLoad true 4 t4).go H fun x9 H => (fun (t2 t6 t10 x9 : V) (H : L) (c : Cx) => p (aIx 2 t2 (ci 0)) fun x10 => (aLoad true 2 x10).go H fun x11 H => p (aCall c.pc 216 [x9, t10, x11]) fun x12 => (aStore 4 t6 x12).go H fun _ H => bnd (loadV true 4 t6 H) fun x13 => some (x13, H)) t2 t6 t10 x9 H c) t2 t4 t6 t10 H c) ((aLoad true 7 t3).go H fun x14 H => p (aCall c.pc 104 [x14, t2]) fun x15 => j3 c.n H.length t2 t3 t4 t6 x15 (ci 0) H)) t2 t3 t4 t6 t9 t10 H c j3)
def j246_2 (c : Cx) : Nat → Nat → F7 := recN (fun _ _ _ _ _ _ _ _ _ => none) fun ih n2 => b246_2 c (ih n2) (j246_3 c) n2
theorem o246_2 (c : Cx) : d246_2 c = j246_2 c := by
  unfold j246_2
  refine recN_ok (by kernel_rfl) fun m => funext fun n2 => ?_
  simp only [← o246_3]
  funext t2 t3 t4 t6 t9 t10 t11 H
  refine Eq.trans (jnK_eq 2417851639229258349416028 _ _ H _) ?_
  kernel_rfl
def b246_1 (c : Cx) (j2 : Nat → Nat → F7) (t0 t1 t2 : V) (H : List Blk) : X := newK 3 H fun q H => (aBox (q + 0) t0).go H fun x1 H => (aBox (q + 1) t1).go H fun x2 H => (aAlloc (q + 2) z10).go H fun x3 H => (aLoad true 4 x2).go H fun x4 H => p (aIx 2 t2 (ci 0)) fun x5 => (fun (t2 x1 x2 x3 x4 x5 : V) (H : L) (c : Cx) (j2 : Nat → Nat → F7) => (aLoad true 2 x5).go H fun x6 H => p (aCall c.pc 14 [x4, x6]) fun x7 => p (aExt 0 x7) fun x8 => p (aExt 1 x7) fun x9 => (aLoad true 7 x1).go H fun x10 H => p (aIx 2 t2 (ci 0)) fun x11 => (aLoad true 2 x11).go H fun x12 H => p (aCall c.pc 46 [x10, x12]) fun x13 => guardK x9 true (fun k => (aMov x13).go H k) H fun x14 H => guardK x9 true (fun k => (aUn .not x14).go H k) H fun x15 H => p (aPick x9 x15 cf) fun x16 => condK x16 ((aLoad true 4 x2).go H fun x17 H => (aStore 4 x3 x17).go H fun _ H => bnd (loadV true 4 x3 H) fun x18 => some (x18, H)) ((fun (t2 x1 x2 x3 x13 : V) (H : L) (c : Cx) (j2 : Nat → Nat → F7) => p (aFld 0 x2) fun x19 => (aLoad false 1 x19).go H fun x20 H => p (aFld 0 x2) fun x21 => (fun (t2 x1 x2 x3 x13 x20 x21 : V) (H : L) (c : Cx) (j2 : Nat → Nat → F7) => (aLoad false 1 x21).go H fun x22 H => p (aBin .add x22 (ci 1)) fun x23 => p (aFld 0 x2) fun x24 => (aStore 1 x24 x23).go H fun _ H => j2 c.n H.length t2 x1 x2 x3 x13 x20 (ci 0) H) t2 x1 x2 x3 x13 x20 x21 H c j2) t2 x1 x2 x3 x13 H c j2)) t2 x1 x2 x3 x4 x5 H c j2
def j246_1 (c : Cx) : F3 := b246_1 c (j246_2 c)
theorem o246_1 (c : Cx) : d246_1 c = j246_1 c := by
  unfold j246_1; rw [← o246_2]
  funext t0 t1 t2 H
  refine Eq.trans (stepK_jn c.pc c.ic c.n _ H _ 1208925819614629174706183 c246_1) ?_
  kernel_rfl
def b246_0 (c : Cx) (j1 : F3) (t0 t1 t2 : V) (H : List Blk) : X := j1 t0 t1 t2 H
def s246 (c : Cx) (args : List V) (H : List Blk) : X := argsK 3 args (b246_0 c (j246_1 c) (getT args 0) (getT args 1) (getT args 2) H)
theorem e246 (pc ic n args H) : runK pc ic n c246 args H = s246 ⟨pc, ic, n⟩ args H := by
  unfold s246; rw [← o246_1]
  kernel_rfl
def L246 : Leaf := ⟨c246, fun pc ic n => s246 ⟨pc, ic, n⟩, e246⟩
theorem kk246 : chkFn Go.Proofs.Tryz.prog ET 246 c246 = true := by kernel_rfl

def c247_1 : C := (.seq (.reg 2 none [o 2 (.box 0) [.t 0] 0, o 3 (.box 1) [.t 1] 1, m 4 (.c cf) 2]) (.seq (.reg 0 none [o 5 (.fld 0) [.t 3] 0, o 6 (.fld 0) [.t 5] 1, o 7 (.load false 1) [.t 6] 2, o 8 (.bin .geq) [.t 7, .c (ci 0)] 3, m 9 (.t 8) 4, ⟨some 10, .fld 0, [.t 3], some (9, true), 0, 5⟩, ⟨some 11, .fld 0, [.t 10], some (9, true), 0, 6⟩, ⟨some 12, .load false 1, [.t 11], some (9, true), 0, 7⟩, ⟨some 13, .bin .lss, [.t 12, .c (ci 8)], some (9, true), 0, 8⟩, o 14 .pick [.t 9, .t 13, .c cf] 9, m 15 (.t 14) 10, ⟨some 16, .fld 0, [.t 3], some (15, true), 0, 11⟩, ⟨some 17, .fld 1, [.t 16], some (15, true), 0, 12⟩, ⟨some 18, .load false 1, [.t 17], some (15, true), 0, 13⟩, ⟨some 19, .bin .geq, [.t 18, .c (ci 1)], some (15, true), 0, 14⟩, o 20 .pick [.t 15, .t 19, .c cf] 15, m 21 (.t 20) 16, ⟨some 22, .fld 0, [.t 3], some (21, true), 0, 17⟩, ⟨some 23, .fld 1, [.t 22], some (21, true), 0, 18⟩, ⟨some 24, .load false 1, [.t 23], some (21, true), 0, 19⟩, ⟨some 25, .bin .leq, [.t 24, .c (ci 2147483647)], some (21, true), 0, 20⟩, o 26 .pick [.t 21, .t 25, .c cf] 21, m 27 (.t 26) 22, ⟨some 28, .fld 2, [.t 3], some (27, true), 0, 23⟩, ⟨some 29, .load false 1, [.t 28], some (27, true), 0, 24⟩, ⟨some 30, .bin .geq, [.t 29, .c (ci 1)], some (27, true), 0, 25⟩, o 31 .pick [.t 27, .t 30, .c cf] 26, m 32 (.t 31) 27, ⟨some 33, .fld 2, [.t 3], some (32, true), 0, 28⟩, ⟨some 34, .load false 1, [.t 33], some (32, true), 0, 29⟩, ⟨some 35, .fld 0, [.t 2], some (32, true), 0, 30⟩, ⟨some 36, .load false 1, [.t 35], some (32, true), 0, 31⟩, ⟨some 37, .bin .lss, [.t 34, .t 36], some (32, true), 0, 32⟩, o 38 .pick [.t 32, .t 37, .c cf] 33, m 4 (.t 38) 34]) .ret))
def c247 : Fn := { fid := 247, np := 2, ntmps := 39, body := (.jn 549755813891 c247_1), res := [.tmp 4] }
def d247_1 (c : Cx) (t0 t1 : V) (H : List Blk) : X := stepK c.pc c.ic c.n (.jn 549755813891 c247_1) (cn 0 39 [(0, t0), (1, t1)]) H (kTop c247.res)
def b247_1 (c : Cx) (t0 t1 : V) (H : List Blk) : X := newK 2 H fun q H => (aBox (q + 0) t0).go H fun x1 H => (aBox (q + 1) t1).go H fun x2 H => p (aFld 0 x2) fun x3 => (fun (x1 x2 x3 : V) (H : L) => p (aFld 0 x3) fun x4 => (aLoad false 1 x4).go H fun x5 H => p (aBin .geq x5 (ci 0)) fun x6 => guardK x6 true (fun k => (aFld 0 x2).go H k) H fun x7 H => (fun (x1 x2 x6 x7 : V) (H : L) => guardK x6 true (fun k => (aFld 0 x7).go H k) H fun x8 H => guardK x6 true (fun k => (aLoad false 1 x8).go H k) H fun x9 H => guardK x6 true (fun k => (aBin .lss x9 (ci 8)).go H k) H fun x10 H => p (aPick x6 x10 cf) fun x11 => (fun (x1 x2 x11 : V) (H : L) => guardK x11 true (fun k => (aFld 0 x2).go H k) H fun x12 H => guardK x11 true (fun k => (aFld 1 x12).go H k) H fun x13 H => guardK x11 true (fun k => (aLoad false 1 x13).go H k) H fun x14 H => guardK x11 true (fun k => (aBin .geq x14 (ci 1)).go H k) H fun x15 H => (fun (x1 x2 x11 x15 : V) (H : L) => p (aPick x11 x15 cf) fun x16 => guardK x16 true (fun k => (aFld 0 x2).go H k) H fun x17 H => guardK x16 true (fun k => (aFld 1 x17).go H k) H fun x18 H => guardK x16 true (fun k => (aLoad false 1 x18).go H k) H fun x19 H => (fun (x1 x2 x16 x19 : V) (H : L) => guardK x16 true (fun k => (aBin .leq x19 (ci 2147483647)).go H k) H fun x20 H => p (aPick x16 x20 cf) fun x21 => guardK x21 true (fun k => (aFld 2 x2).go H k) H fun x22 H => guardK x21 true (fun k => (aLoad false 1 x22).go H k) H fun x23 H => (fun (x1 x2 x21 x23 : V) (H : L) => guardK x21 true (fun k => (aBin .geq x23 (ci 1)).go H k) H fun x24 H => p (aPick x21 x24 cf) fun x25 => guardK x25 true (fun k => (aFld 2 x2).go H k) H fun x26 H => guardK x25 true (fun k => (aLoad false 1 x26).go H k) H fun x27 H => (fun (x1 x25 x27 : V) (H : L) => guardK x25 true (fun k => (aFld 0 x1).go H k) H fun x28 H => guardK x25 true (fun k => (aLoad false 1 x28).go H k) H fun x29 H => guardK x25 true (fun k => (aBin .lss x27 x29).go H k) H fun x30 H => p (aPick x25 x30 cf) fun x31 => some (x31, H)) x1 x25 x27 H) x1 x2 x21 x23 H) x1 x2 x16 x19 H) x1 x2 x11 x15 H) x1 x2 x11 H) x1 x2 x6 x7 H) x1 x2 x3 H
def j247_1 (c : Cx) : F2 := b247_1 c
theorem o247_1 (c : Cx) : d247_1 c = j247_1 c := by
  unfold j247_1
  funext t0 t1 H
  refine Eq.trans (stepK_jn c.pc c.ic c.n _ H _ 549755813891 c247_1) ?_
  kernel_rfl
def b247_0 (c : Cx) (j1 : F2) (t0 t1 : V) (H : List Blk) : X := j1 t0 t1 H
def s247 (c : Cx) (args : List V) (H : List Blk) : X := argsK 2 args (b247_0 c (j247_1 c) (getT args 0) (getT args 1) H)
theorem e247 (pc ic n args H) : runK pc ic n c247 args H = s247 ⟨pc, ic, n⟩ args H := by
  unfold s247; rw [← o247_1]
  kernel_rfl
def L247 : Leaf := ⟨c247, fun pc ic n => s247 ⟨pc, ic, n⟩, e247⟩
theorem kk247 : chkFn Go.Proofs.Tryz.prog ET 247 c247 = true := by kernel_rfl

def c248_1 : C := (.seq (.reg 2 none [o 2 (.box 0) [.t 0] 0, o 3 (.box 1) [.t 1] 1, m 4 (.c cf) 2]) (.seq (.reg 0 none [o 5 (.fld 0) [.t 2] 0, o 6 (.load false 1) [.t 5] 1, o 7 (.fld 0) [.t 3] 2, o 8 (.load false 1) [.t 7] 3, o 9 (.bin .lss) [.t 6, .t 8] 4, m 10 (.t 9) 5, ⟨some 11, .fld 0, [.t 2], some (10, false), 0, 6⟩, ⟨some 12, .load false 1, [.t 11], some (10, false), 0, 7⟩, ⟨some 13, .fld 0, [.t 3], some (10, false), 0, 8⟩, ⟨some 14, .load false 1, [.t 13], some (10, false), 0, 9⟩, ⟨some 15, .bin .eql, [.t 12, .t 14], some (10, false), 0, 10⟩, ⟨some 16, .mov, [.t 15], some (10, false), 0, 11⟩, ⟨some 17, .fld 1, [.t 2], some (16, true), 0, 12⟩, ⟨some 18, .load false 1, [.t 17], some (16, true), 0, 13⟩, ⟨some 19, .fld 1, [.t 3], some (16, true), 0, 14⟩, ⟨some 20, .load false 1, [.t 19], some (16, true), 0, 15⟩, ⟨some 21, .bin .lss, [.t 18, .t 20], some (16, true), 0, 16⟩, ⟨some 22, .pick, [.t 16, .t 21, .c cf], some (10, false), 0, 17⟩, o 23 .pick [.t 10, .c ct, .t 22] 18, m 4 (.t 23) 19]) .ret))
def c248 : Fn := { fid := 248, np := 2, ntmps := 24, body := (.jn 16777219 c248_1), res := [.tmp 4] }
def d248_1 (c : Cx) (t0 t1 : V) (H : List Blk) : X := stepK c.pc c.ic c.n (.jn 16777219 c248_1) (cn 0 24 [(0, t0), (1, t1)]) H (kTop c248.res)
def b248_1 (c : Cx) (t0 t1 : V) (H : List Blk) : X := newK 2 H fun q H => (aBox (q + 0) t0).go H fun x1 H => (aBox (q + 1) t1).go H fun x2 H => p (aFld 0 x1) fun x3 => (aLoad false 1 x3).go H fun x4 H => (fun (x1 x2 x4 : V) (H : L) => p (aFld 0 x2) fun x5 => (aLoad false 1 x5).go H fun x6 H => p (aBin .lss x4 x6) fun x7 => guardK x7 false (fun k => (aFld 0 x1).go H k) H fun x8 H => (fun (x1 x2 x7 x8 : V) (H : L) => guardK x7 false (fun k => (aLoad false 1 x8).go H k) H fun x9 H => guardK x7 false (fun k => (aFld 0 x2).go H k) H fun x10 H => guardK x7 false (fun k => (aLoad false 1 x10).go H k) H fun x11 H => guardK x7 false (fun k => (aBin .eql x9 x11).go H k) H fun x12 H => (fun (x1 x2 x7 x12 : V) (H : L) => guardK x7 false (fun k => (aMov x12).go H k) H fun x13 H => guardK x13 true (fun k => (aFld 1 x1).go H k) H fun x14 H => guardK x13 true (fun k => (aLoad false 1 x14).go H k) H fun x15 H => guardK x13 true (fun k => (aFld 1 x2).go H k) H fun x16 H => (fun (x7 x13 x15 x16 : V) (H : L) => guardK x13 true (fun k => (aLoad false 1 x16).go H k) H fun x17 H => guardK x13 true (fun k => (aBin .lss x15 x17).go H k) H fun x18 H => guardK x7 false (fun k => (aPick x13 x18 cf).go H k) H fun x19 H => p (aPick x7 ct x19) fun x20 => some (x20, H)) x7 x13 x15 x16 H) x1 x2 x7 x12 H) x1 x2 x7 x8 H) x1 x2 x4 H
def j248_1 (c : Cx) : F2 := b248_1 c
theorem o248_1 (c : Cx) : d248_1 c = j248_1 c := by
  unfold j248_1
  funext t0 t1 H
  refine Eq.trans (stepK_jn c.pc c.ic c.n _ H _ 16777219 c248_1) ?_
  kernel_rfl
def b248_0 (c : Cx) (j1 : F2) (t0 t1 : V) (H : List Blk) : X := j1 t0 t1 H
def s248 (c : Cx) (args : List V) (H : List Blk) : X := argsK 2 args (b248_0 c (j248_1 c) (getT args 0) (getT args 1) H)
theorem e248 (pc ic n args H) : runK pc ic n c248 args H = s248 ⟨pc, ic, n⟩ args H := by
  unfold s248; rw [← o248_1]
  kernel_rfl
def L248 : Leaf := ⟨c248, fun pc ic n => s248 ⟨pc, ic, n⟩, e248⟩
theorem kk248 : chkFn Go.Proofs.Tryz.prog ET 248 c248 = true := by kernel_rfl

def c251_1 : C := (.seq (.reg 2 none [o 3 (.box 0) [.t 0] 0, o 4 (.box 1) [.t 1] 1, m 6 (.c cf) 2]) (.seq (.reg 1 none [o 10 (.load true 7) [.t 3] 0, o 11 (.load true 2) [.t 4] 1, o 12 (.call 196) [.t 10, .t 11] 2, o 7 (.alloc 0 z1) [] 3, ⟨none, .store 8, [.t 7, .t 12], none, 0, 4⟩]) (.seq (.reg 0 none [o 14 (.load true 8) [.t 7] 0, m 15 (.t 2) 1, o 16 (.call 90) [.t 14, .t 15] 2, m 13 (.t 16) 3, o 17 (.ext 0) [.t 13] 4, o 18 (.ext 1) [.t 13] 5, m 8 (.t 17) 6, m 9 (.t 18) 7]) (.seq (.reg 0 none [m 19 (.t 9) 0, m 20 (.t 19) 1, ⟨some 21, .fld 1, [.t 7], some (20, true), 0, 2⟩, ⟨some 22, .load false 1, [.t 21], some (20, true), 0, 3⟩, ⟨some 23, .bin .eql, [.t 22, .c (ci 2)], some (20, true), 0, 4⟩, o 24 .pick [.t 20, .t 23, .c cf] 5, m 25 (.t 24) 6, ⟨some 26, .fld 0, [.t 3], some (25, true), 0, 7⟩, ⟨some 27, .load true 2, [.t 26], some (25, true), 0, 8⟩, ⟨some 28, .fld 0, [.t 4], some (25, true), 0, 9⟩, ⟨some 29, .load false 1, [.t 28], some (25, true), 0, 10⟩, ⟨some 30, .call 289, [.t 27, .t 29], some (25, true), 0, 11⟩, o 31 .pick [.t 25, .t 30, .c cf] 12, m 6 (.t 31) 13]) .ret))))
def c251 : Fn := { fid := 251, np := 3, ntmps := 32, body := (.jn 4294967303 c251_1), res := [.tmp 6] }
def L251 : Leaf := coldL c251
theorem kk251 : chkFn Go.Proofs.Tryz.prog ET 251 c251 = true := by kernel_rfl

def c252 : Fn := { fid := 252, np := 1, ntmps := 6, body := (.seq (.reg 0 none [m 2 (.c cf) 0]) (.seq (.reg 0 none [m 3 (.t 0) 0, m 4 (.t 0) 1, o 5 (.bin .neq) [.t 3, .t 4] 2, m 2 (.t 5) 3]) .ret)), res := [.tmp 2] }
def L252 : Leaf := coldL c252
theorem kk252 : chkFn Go.Proofs.Tryz.prog ET 252 c252 = true := by kernel_rfl

def c253 : Fn := { fid := 253, np := 1, ntmps := 6, body := (.seq (.reg 0 none [m 2 (.c cf) 0]) (.seq (.reg 0 none [m 3 (.t 0) 0, m 4 (.t 0) 1, o 5 (.bin .neq) [.t 3, .t 4] 2, m 2 (.t 5) 3]) .ret)), res := [.tmp 2] }
def b253_0 (c : Cx) (t0 : V) (H : List Blk) : X := p (aBin .neq t0 t0) fun x1 => some (x1, H)
def s253 (c : Cx) (args : List V) (H : List Blk) : X := argsK 1 args (b253_0 c (getT args 0) H)
theorem e253 (pc ic n args H) : runK pc ic n c253 args H = s253 ⟨pc, ic, n⟩ args H := by
  unfold s253
  kernel_rfl
def L253 : Leaf := ⟨c253, fun pc ic n => s253 ⟨pc, ic, n⟩, e253⟩
theorem kk253 : chkFn Go.Proofs.Tryz.prog ET 253 c253 = true := by kernel_rfl

def c254_2 : C := (.seq (.seq (.reg 0 none [m 15 (.t 9) 0, m 16 (.t 10) 1, o 17 (.bin .lss) [.t 15, .t 16] 2]) (.cond (.t 17) .skip (.exit 0))) (.blk 1 (.seq (.reg 0 none [m 18 (.t 9) 0, m 19 (.t 10) 1, o 20 (.bin .add) [.t 18, .t 19] 2, o 21 (.toInt .u64) [.t 20] 3, o 22 (.bin .shr) [.t 21, .c (.d (.int .u64 1))] 4, o 23 (.toInt .i64) [.t 22] 5, m 11 (.t 23) 6]) (.seq (.reg 0 none [m 24 (.t 2) 0, m 25 (.t 0) 1, m 26 (.t 11) 2, o 27 (.ix 8) [.t 25, .t 26] 3, o 28 (.load true 8) [.t 27] 4, m 29 (.t 1) 5, o 30 .dcall [.t 24, .t 28, .t 29] 6, o 31 (.bin .lss) [.t 30, .c (ci 0)] 7]) (.cond (.t 31) (.reg 0 none [m 32 (.t 11) 0, o 33 (.bin .add) [.t 32, .c (ci 1)] 1, m 9 (.t 33) 2]) (.reg 0 none [m 34 (.t 11) 0, m 10 (.t 34) 1]))))))
def c254_s1 : C := (.seq (.reg 0 none [m 35 (.t 9) 0, m 36 (.t 9) 1, m 37 (.t 8) 2, o 38 (.bin .lss) [.t 36, .t 37] 3, m 39 (.t 38) 4, ⟨some 40, .mov, [.t 2], some (39, true), 0, 5⟩, ⟨some 41, .mov, [.t 0], some (39, true), 0, 6⟩, ⟨some 42, .mov, [.t 9], some (39, true), 0, 7⟩, ⟨some 43, .ix 8, [.t 41, .t 42], some (39, true), 0, 8⟩, ⟨some 44, .load true 8, [.t 43], some (39, true), 0, 9⟩, ⟨some 45, .mov, [.t 1], some (39, true), 0, 10⟩, ⟨some 46, .dcall, [.t 40, .t 44, .t 45], some (39, true), 0, 11⟩, ⟨some 47, .bin .eql, [.t 46, .c (ci 0)], some (39, true), 0, 12⟩, o 48 .pick [.t 39, .t 47, .c cf] 13, m 6 (.t 35) 14, m 7 (.t 48) 15]) .ret)
def c254_1 : C := (.seq (.reg 0 none [m 6 (.c (ci 0)) 0, m 7 (.c cf) 1]) (.seq (.reg 0 none [m 12 (.t 0) 0, o 13 (.len 1) [.t 12] 1, m 8 (.t 13) 2]) (.seq (.reg 0 none [m 14 (.t 8) 0, m 9 (.c (ci 0)) 1, m 10 (.t 14) 2]) (.seq (.blk 0 (.loop 1125899906844423 true c254_2)) c254_s1))))
def c254 : Fn := { fid := 254, np := 3, ntmps := 49, body := (.jn 562949953421319 c254_1), res := [.tmp 6, .tmp 7] }
def d254_1 (c : Cx) (t0 t1 t2 : V) (H : List Blk) : X := stepK c.pc c.ic c.n (.jn 562949953421319 c254_1) (cn 0 49 [(0, t0), (1, t1), (2, t2)]) H (kTop c254.res)
def k254_1 (c : Cx) : KT := thenK (stepK c.pc c.ic c.n c254_s1) (kTop c254.res)
def k254_2 (c : Cx) : KT := blkK 0 (k254_1 c)
def d254_2 (c : Cx) (m n2 : Nat) (t0 t1 t2 t8 t9 t10 : V) (H : List Blk) : X := jnK (loopsK (stepK c.pc c.ic c.n c254_2) 1125899906844423 true n2 m) (cn 0 49 [(0, t0), (1, t1), (2, t2), (8, t8), (9, t9), (10, t10)]) H (k254_2 c) 1125899906844423
def b254_2 (c : Cx) (r2 : F6) (n2 : Nat) (t0 t1 t2 t8 t9 t10 : V) (H : List Blk) : X := bnd (trimF true n2 [t0, t1, t2, t8, t9, t10] H) fun H => p (aBin .lss t9 t10) fun x1 => condK x1 ((fun (t0 t1 t2 t8 t9 t10 : V) (H : L) (c : Cx) (r2 : F6) => p (aBin .add t9 t10) fun x2 => p (aToInt .u64 x2) fun x3 => p (aBin .shr x3 (.d (.int .u64 1))) fun x4 => p (aToInt .i64 x4) fun x5 => p (aIx 8 t0 x5) fun x6 => (aLoad true 8 x6).go H fun x7 H => callK c.ic [t2, x7, t1] H fun x8 H => p (aBin .lss x8 (ci 0)) fun x9 => condK x9 (p (aBin .add x5 (ci 1)) fun x10 => r2 t0 t1 t2 t8 x10 t10 H) (r2 t0 t1 t2 t8 t9 x5 H)) t0 t1 t2 t8 t9 t10 H c r2) ((fun (t0 t1 t2 t8 t9 : V) (H : L) (c : Cx) => p (aBin .lss t9 t8) fun x11 => guardK x11 true (fun k => (aMov t2).go H k) H fun x12 H => (fun (t0 t1 t9 x11 x12 : V) (H : L) (c : Cx) => guardK x11 true (fun k => (aMov t0).go H k) H fun x13 H => guardK x11 true (fun k => (aMov t9).go H k) H fun x14 H => guardK x11 true (fun k => (aIx 8 x13 x14).go H k) H fun x15 H => guardK x11 true (fun k => (aLoad true 8 x15).go H k) H fun x16 H => (fun (t1 t9 x11 x12 x16 : V) (H : L) (c : Cx) => guardK x11 true (fun k => (aMov t1).go H k) H fun x17 H => guardK x11 true (callK c.ic [x12, x16, x17] H) H fun x18 H => guardK x11 true (fun k => (aBin .eql x18 (ci 0)).go H k) H fun x19 H => p (aPick x11 x19 cf) fun x20 => some (.tup [t9, x20], H)) t1 t9 x11 x12 x16 H c) t0 t1 t9 x11 x12 H c) t0 t1 t2 t8 t9 H c)
def j254_2 (c : Cx) : Nat → Nat → F6 := recN (fun _ _ _ _ _ _ _ _ => none) fun ih n2 => b254_2 c (ih n2) n2
theorem o254_2 (c : Cx) : d254_2 c = j254_2 c := by
  unfold j254_2
  refine recN_ok (by kernel_rfl) fun m => funext fun n2 => ?_
  funext t0 t1 t2 t8 t9 t10 H
  refine Eq.trans (jnK_eq 1125899906844423 _ _ H _) ?_
  kernel_rfl
def b254_1 (c : Cx) (j2 : Nat → Nat → F6) (t0 t1 t2 : V) (H : List Blk) : X := (aLen 1 t0).go H fun x1 H => j2 c.n H.length t0 t1 t2 x1 (ci 0) x1 H
def j254_1 (c : Cx) : F3 := b254_1 c (j254_2 c)
theorem o254_1 (c : Cx) : d254_1 c = j254_1 c := by
  unfold j254_1; rw [← o254_2]
  funext t0 t1 t2 H
  refine Eq.trans (stepK_jn c.pc c.ic c.n _ H _ 562949953421319 c254_1) ?_
  kernel_rfl
def b254_0 (c : Cx) (j1 : F3) (t0 t1 t2 : V) (H : List Blk) : X := j1 t0 t1 t2 H
def s254 (c : Cx) (args : List V) (H : List Blk) : X := argsK 3 args (b254_0 c (j254_1 c) (getT args 0) (getT args 1) (getT args 2) H)
theorem e254 (pc ic n args H) : runK pc ic n c254 args H = s254 ⟨pc, ic, n⟩ args H := by
  unfold s254; rw [← o254_1]
  kernel_rfl
def L254 : Leaf := ⟨c254, fun pc ic n => s254 ⟨pc, ic, n⟩, e254⟩
theorem kk254 : chkFn Go.Proofs.Tryz.prog ET 254 c254 = true := by kernel_rfl

def c255 : Fn := { fid := 255, np := 2, ntmps := 9, body := (.seq (.reg 1 none [o 2 (.box 0) [.t 0] 0, m 4 (.c (ci 0)) 1]) (.seq (.reg 0 none [o 5 (.fld 0) [.t 2] 0, o 6 (.load false 1) [.t 5] 1, m 7 (.t 1) 2, o 8 (.call 165) [.t 6, .t 7] 3, m 4 (.t 8) 4]) .ret)), res := [.tmp 4] }
def b255_0 (c : Cx) (t0 t1 : V) (H : List Blk) : X := newK 1 H fun q H => (aBox (q + 0) t0).go H fun x1 H => p (aFld 0 x1) fun x2 => (aLoad false 1 x2).go H fun x3 H => p (aCall c.pc 165 [x3, t1]) fun x4 => some (x4, H)
def s255 (c : Cx) (args : List V) (H : List Blk) : X := argsK 2 args (b255_0 c (getT args 0) (getT args 1) H)
theorem e255 (pc ic n args H) : runK pc ic n c255 args H = s255 ⟨pc, ic, n⟩ args H := by
  unfold s255
  kernel_rfl
def L255 : Leaf := ⟨c255, fun pc ic n => s255 ⟨pc, ic, n⟩, e255⟩
theorem kk255 : chkFn Go.Proofs.Tryz.prog ET 255 c255 = true := by kernel_rfl

def l256_0 : List O := [o 14 (.fld 1) [.t 1] 0, ⟨some 15, .load false 1, [.t 14], none, 1, 1⟩, m 16 (.t 3) 2, o 17 (.fld 1) [.t 1] 3, ⟨some 18, .load false 1, [.t 17], none, 8, 4⟩, m 19 (.t 3) 5, ⟨some 20, .ix 2, [.t 18, .t 19], none, 56, 6⟩, ⟨some 21, .fld 1, [.t 20], none, 120, 7⟩, ⟨some 22, .load false 1, [.t 21], none, 248, 8⟩, ⟨some 23, .cloneA 0 1 1, [.t 22], none, 504, 9⟩, ⟨some 24, .ix 2, [.t 15, .t 16], none, 1023, 10⟩, ⟨some 25, .fld 1, [.t 24], none, 2047, 11⟩, ⟨none, .store 1, [.t 25, .t 23], none, 4095, 12⟩]
def c256_2 : C := (.seq (.reg 0 none [o 12 (.bin .lss) [.t 11, .t 10] 0]) (.seq (.cond (.t 12) .skip (.exit 0)) (.seq (.blk 1 (.seq (.reg 0 none [m 13 (.t 11) 0, m 3 (.t 13) 1]) (.reg 1 (some ⟨false, [], 28⟩) l256_0))) (.reg 0 none [o 26 (.bin .add) [.t 11, .c (ci 1)] 0, m 11 (.t 26) 1]))))
def c256_s1 : C := (.seq (.reg 0 none [o 27 (.load true 2) [.t 1] 0, ⟨none, .store 2, [.t 2, .t 27], none, 0, 1⟩]) .ret)
def c256_1 : C := (.seq (.reg 2 none [o 1 (.box 0) [.t 0] 0, o 2 (.alloc 1 [(ci 0), .nilS]) [] 1]) (.seq (.reg 1 none [o 4 (.fld 1) [.t 1] 0, o 5 (.load false 1) [.t 4] 1, o 6 (.cloneA 0 2 32) [.t 5] 2, o 7 (.fld 1) [.t 1] 3, ⟨none, .store 1, [.t 7, .t 6], none, 0, 4⟩]) (.seq (.seq (.reg 0 none [o 8 (.fld 1) [.t 1] 0, o 9 (.load false 1) [.t 8] 1, o 10 (.len 1) [.t 9] 2, m 11 (.c (ci 0)) 3]) (.blk 0 (.loop 536873990 false c256_2))) c256_s1)))
def c256 : Fn := { fid := 256, np := 1, ntmps := 28, body := (.jn 268435457 c256_1), res := [.cell 2 true 2] }
def d256_1 (c : Cx) (t0 : V) (H : List Blk) : X := stepK c.pc c.ic c.n (.jn 268435457 c256_1) (cn 0 28 [(0, t0)]) H (kTop c256.res)
def k256_1 (c : Cx) : KT := thenK (stepK c.pc c.ic c.n c256_s1) (kTop c256.res)
def k256_2 (c : Cx) : KT := blkK 0 (k256_1 c)
def d256_2 (c : Cx) (m n2 : Nat) (t1 t2 t10 t11 : V) (H : List Blk) : X := jnK (loopsK (stepK c.pc c.ic c.n c256_2) 536873990 false n2 m) (cn 0 28 [(1, t1), (2, t2), (10, t10), (11, t11)]) H (k256_2 c) 536873990
def b256_2 (c : Cx) (r2 : F4) (n2 : Nat) (t1 t2 t10 t11 : V) (H : List Blk) : X := p (aBin .lss t11 t10) fun x1 => condK x1 ((fun (t1 t2 t10 t11 x1 : V) (H : L) (c : Cx) (r2 : F4) => newK 1 H fun q H => drawnK c.pc c.ic l256_0 q (cn 0 28 [(1, t1), (2, t2), (3, t11), (10, t10), (11, t11), (12, x1), (13, t11)]) H fun ts1 H => p (aBin .add (getT ts1 11) (ci 1)) fun x3 => r2 (getT ts1 1) (getT ts1 2) (getT ts1 10) x3 H) t1 t2 t10 t11 x1 H c r2) ((aLoad true 2 t1).go H fun x4 H => (aStore 2 t2 x4).go H fun _ H => bnd (loadV true 2 t2 H) fun x5 => some (x5, H))
def j256_2 (c : Cx) : Nat → Nat → F4 := recN (fun _ _ _ _ _ _ => none) fun ih n2 => b256_2 c (ih n2) n2
theorem o256_2 (c : Cx) : d256_2 c = j256_2 c := by
  unfold j256_2
  refine recN_ok (by kernel_rfl) fun m => funext fun n2 => ?_
  funext t1 t2 t10 t11 H
  refine Eq.trans (jnK_eq 536873990 _ _ H _) ?_
  kernel_rfl
def b256_1 (c : Cx) (j2 : Nat → Nat → F4) (t0 : V) (H : List Blk) : X := newK 2 H fun q H => (aBox (q + 0) t0).go H fun x1 H => (aAlloc (q + 1) [(ci 0), .nilS]).go H fun x2 H => newK 1 H fun q H => p (aFld 1 x1) fun x3 => (fun (x1 x2 x3 : V) (q : Nat) (H : L) (c : Cx) (j2 : Nat → Nat → F4) => (aLoad false 1 x3).go H fun x4 H => (aCloneA (q + 0) 2 32 x4).go H fun x5 H => p (aFld 1 x1) fun x6 => (aStore 1 x6 x5).go H fun _ H => p (aFld 1 x1) fun x7 => (aLoad false 1 x7).go H fun x8 H => (aLen 1 x8).go H fun x9 H => j2 c.n H.length x1 x2 x9 (ci 0) H) x1 x2 x3 q H c j2
def j256_1 (c : Cx) : F1 := b256_1 c (j256_2 c)
theorem o256_1 (c : Cx) : d256_1 c = j256_1 c := by
  unfold j256_1; rw [← o256_2]
  funext t0 H
  refine Eq.trans (stepK_jn c.pc c.ic c.n _ H _ 268435457 c256_1) ?_
  kernel_rfl
def b256_0 (c : Cx) (j1 : F1) (t0 : V) (H : List Blk) : X := j1 t0 H
def s256 (c : Cx) (args : List V) (H : List Blk) : X := argsK 1 args (b256_0 c (j256_1 c) (getT args 0) H)
theorem e256 (pc ic n args H) : runK pc ic n c256 args H = s256 ⟨pc, ic, n⟩ args H := by
  unfold s256; rw [← o256_1]
  kernel_rfl
def L256 : Leaf := ⟨c256, fun pc ic n => s256 ⟨pc, ic, n⟩, e256⟩
theorem kk256 : chkFn Go.Proofs.Tryz.prog ET 256 c256 = true := by kernel_rfl

def c258_2 : C := (.seq (.reg 0 none [o 13 (.bin .lss) [.t 12, .t 11] 0]) (.seq (.cond (.t 13) .skip (.exit 0)) (.seq (.blk 1 (.seq (.reg 1 none [m 14 (.t 12) 0, o 15 (.ix 8) [.t 10, .t 12] 1, o 16 (.load true 8) [.t 15] 2, o 4 (.alloc 0 z1) [] 3, m 3 (.t 14) 4, ⟨none, .store 8, [.t 4, .t 16], none, 0, 5⟩]) (.reg 0 (some ⟨true, [], 25⟩) [o 17 (.fld 3) [.t 1] 0, ⟨some 18, .load false 1, [.t 17], none, 1, 1⟩, m 19 (.t 3) 2, o 20 (.load true 8) [.t 4] 3, ⟨some 21, .call 167, [.t 20], none, 8, 4⟩, ⟨some 22, .ix 8, [.t 18, .t 19], none, 31, 5⟩, ⟨none, .store 8, [.t 22, .t 21], none, 63, 6⟩]))) (.reg 0 none [o 23 (.bin .add) [.t 12, .c (ci 1)] 0, m 12 (.t 23) 1]))))
def c258_s1 : C := (.seq (.reg 0 none [o 24 (.load true 4) [.t 1] 0, ⟨none, .store 4, [.t 2, .t 24], none, 0, 1⟩]) .ret)
def c258_1 : C := (.seq (.reg 2 none [o 1 (.box 0) [.t 0] 0, o 2 (.alloc 1 z0) [] 1]) (.seq (.reg 1 none [o 5 (.fld 3) [.t 1] 0, o 6 (.load false 1) [.t 5] 1, o 7 (.cloneA 0 8 104) [.t 6] 2, o 8 (.fld 3) [.t 1] 3, ⟨none, .store 1, [.t 8, .t 7], none, 0, 4⟩]) (.seq (.seq (.reg 0 none [o 9 (.fld 3) [.t 1] 0, o 10 (.load false 1) [.t 9] 1, o 11 (.len 1) [.t 10] 2, m 12 (.c (ci 0)) 3]) (.blk 0 (.loop 67116038 true c258_2))) c258_s1)))
def c258 : Fn := { fid := 258, np := 1, ntmps := 25, body := (.jn 33554433 c258_1), res := [.cell 2 true 4] }
def d258_1 (c : Cx) (t0 : V) (H : List Blk) : X := stepK c.pc c.ic c.n (.jn 33554433 c258_1) (cn 0 25 [(0, t0)]) H (kTop c258.res)
def k258_1 (c : Cx) : KT := thenK (stepK c.pc c.ic c.n c258_s1) (kTop c258.res)
def k258_2 (c : Cx) : KT := blkK 0 (k258_1 c)
def d258_2 (c : Cx) (m n2 : Nat) (t1 t2 t10 t11 t12 : V) (H : List Blk) : X := jnK (loopsK (stepK c.pc c.ic c.n c258_2) 67116038 true n2 m) (cn 0 25 [(1, t1), (2, t2), (10, t10), (11, t11), (12, t12)]) H (k258_2 c) 67116038
def b258_2 (c : Cx) (r2 : F5) (n2 : Nat) (t1 t2 t10 t11 t12 : V) (H : List Blk) : X := bnd (trimF true n2 [t1, t2, t10, t11, t12] H) fun H => p (aBin .lss t12 t11) fun x1 => condK x1 ((fun (t1 t2 t10 t11 t12 : V) (H : L) (c : Cx) (r2 : F5) => newK 1 H fun q H => (fun (t1 t2 t10 t11 t12 : V) (q : Nat) (H : L) (c : Cx) (r2 : F5) => p (aIx 8 t10 t12) fun x2 => (aLoad true 8 x2).go H fun x3 H => (aAlloc (q + 0) z1).go H fun x4 H => (aStore 8 x4 x3).go H fun _ H => p (aFld 3 t1) fun x5 => (aLoad false 1 x5).go H fun x6 H => (fun (t1 t2 t10 t11 t12 x4 x6 : V) (H : L) (c : Cx) (r2 : F5) => (aLoad true 8 x4).go H fun x7 H => p (aCall c.pc 167 [x7]) fun x8 => p (aIx 8 x6 t12) fun x9 => (aStore 8 x9 x8).go H fun _ H => p (aBin .add t12 (ci 1)) fun x10 => r2 t1 t2 t10 t11 x10 H) t1 t2 t10 t11 t12 x4 x6 H c r2) t1 t2 t10 t11 t12 q H c r2) t1 t2 t10 t11 t12 H c r2) ((aLoad true 4 t1).go H fun x11 H => (aStore 4 t2 x11).go H fun _ H => bnd (loadV true 4 t2 H) fun x12 => some (x12, H))
def j258_2 (c : Cx) : Nat → Nat → F5 := recN (fun _ _ _ _ _ _ _ => none) fun ih n2 => b258_2 c (ih n2) n2
theorem o258_2 (c : Cx) : d258_2 c = j258_2 c := by
  unfold j258_2
  refine recN_ok (by kernel_rfl) fun m => funext fun n2 => ?_
  funext t1 t2 t10 t11 t12 H
  refine Eq.trans (jnK_eq 67116038 _ _ H _) ?_
  kernel_rfl
def b258_1 (c : Cx) (j2 : Nat → Nat → F5) (t0 : V) (H : List Blk) : X := newK 2 H fun q H => (aBox (q + 0) t0).go H fun x1 H => (aAlloc (q + 1) z0).go H fun x2 H => newK 1 H fun q H => p (aFld 3 x1) fun x3 => (fun (x1 x2 x3 : V) (q : Nat) (H : L) (c : Cx) (j2 : Nat → Nat → F5) => (aLoad false 1 x3).go H fun x4 H => (aCloneA (q + 0) 8 104 x4).go H fun x5 H => p (aFld 3 x1) fun x6 => (aStore 1 x6 x5).go H fun _ H => p (aFld 3 x1) fun x7 => (aLoad false 1 x7).go H fun x8 H => (aLen 1 x8).go H fun x9 H => j2 c.n H.length x1 x2 x8 x9 (ci 0) H) x1 x2 x3 q H c j2
def j258_1 (c : Cx) : F1 := b258_1 c (j258_2 c)
theorem o258_1 (c : Cx) : d258_1 c = j258_1 c := by
  unfold j258_1; rw [← o258_2]
  funext t0 H
  refine Eq.trans (stepK_jn c.pc c.ic c.n _ H _ 33554433 c258_1) ?_
  kernel_rfl
def b258_0 (c : Cx) (j1 : F1) (t0 : V) (H : List Blk) : X := j1 t0 H
def s258 (c : Cx) (args : List V) (H : List Blk) : X := argsK 1 args (b258_0 c (j258_1 c) (getT args 0) H)
theorem e258 (pc ic n args H) : runK pc ic n c258 args H = s258 ⟨pc, ic, n⟩ args H := by
  unfold s258; rw [← o258_1]
  kernel_rfl
def L258 : Leaf := ⟨c258, fun pc ic n => s258 ⟨pc, ic, n⟩, e258⟩
theorem kk258 : chkFn Go.Proofs.Tryz.prog ET 258 c258 = true := by kernel_rfl

def c261_2 : C := (.seq (.seq (.reg 0 none [m 15 (.t 9) 0, m 16 (.t 10) 1, o 17 (.bin .lss) [.t 15, .t 16] 2]) (.cond (.t 17) .skip (.exit 0))) (.blk 1 (.seq (.reg 0 none [m 18 (.t 9) 0, m 19 (.t 10) 1, o 20 (.bin .add) [.t 18, .t 19] 2, o 21 (.toInt .u64) [.t 20] 3, o 22 (.bin .shr) [.t 21, .c (.d (.int .u64 1))] 4, o 23 (.toInt .i64) [.t 22] 5, m 11 (.t 23) 6]) (.seq (.reg 0 none [m 24 (.t 2) 0, m 25 (.t 0) 1, m 26 (.t 11) 2, o 27 (.ix 2) [.t 25, .t 26] 3, o 28 (.load true 2) [.t 27] 4, m 29 (.t 1) 5, o 30 .dcall [.t 24, .t 28, .t 29] 6, o 31 (.bin .lss) [.t 30, .c (ci 0)] 7]) (.cond (.t 31) (.reg 0 none [m 32 (.t 11) 0, o 33 (.bin .add) [.t 32, .c (ci 1)] 1, m 9 (.t 33) 2]) (.reg 0 none [m 34 (.t 11) 0, m 10 (.t 34) 1]))))))
def c261_s1 : C := (.seq (.reg 0 none [m 35 (.t 9) 0, m 36 (.t 9) 1, m 37 (.t 8) 2, o 38 (.bin .lss) [.t 36, .t 37] 3, m 39 (.t 38) 4, ⟨some 40, .mov, [.t 2], some (39, true), 0, 5⟩, ⟨some 41, .mov, [.t 0], some (39, true), 0, 6⟩, ⟨some 42, .mov, [.t 9], some (39, true), 0, 7⟩, ⟨some 43, .ix 2, [.t 41, .t 42], some (39, true), 0, 8⟩, ⟨some 44, .load true 2, [.t 43], some (39, true), 0, 9⟩, ⟨some 45, .mov, [.t 1], some (39, true), 0, 10⟩, ⟨some 46, .dcall, [.t 40, .t 44, .t 45], some (39, true), 0, 11⟩, ⟨some 47, .bin .eql, [.t 46, .c (ci 0)], some (39, true), 0, 12⟩, o 48 .pick [.t 39, .t 47, .c cf] 13, m 6 (.t 35) 14, m 7 (.t 48) 15]) .ret)
def c261_1 : C := (.seq (.reg 0 none [m 6 (.c (ci 0)) 0, m 7 (.c cf) 1]) (.seq (.reg 0 none [m 12 (.t 0) 0, o 13 (.len 1) [.t 12] 1, m 8 (.t 13) 2]) (.seq (.reg 0 none [m 14 (.t 8) 0, m 9 (.c (ci 0)) 1, m 10 (.t 14) 2]) (.seq (.blk 0 (.loop 1125899906844423 true c261_2)) c261_s1))))
def c261 : Fn := { fid := 261, np := 3, ntmps := 49, body := (.jn 562949953421319 c261_1), res := [.tmp 6, .tmp 7] }
def d261_1 (c : Cx) (t0 t1 t2 : V) (H : List Blk) : X := stepK c.pc c.ic c.n (.jn 562949953421319 c261_1) (cn 0 49 [(0, t0), (1, t1), (2, t2)]) H (kTop c261.res)
def k261_1 (c : Cx) : KT := thenK (stepK c.pc c.ic c.n c261_s1) (kTop c261.res)
def k261_2 (c : Cx) : KT := blkK 0 (k261_1 c)
def d261_2 (c : Cx) (m n2 : Nat) (t0 t1 t2 t8 t9 t10 : V) (H : List Blk) : X := jnK (loopsK (stepK c.pc c.ic c.n c261_2) 1125899906844423 true n2 m) (cn 0 49 [(0, t0), (1, t1), (2, t2), (8, t8), (9, t9), (10, t10)]) H (k261_2 c) 1125899906844423
def b261_2 (c : Cx) (r2 : F6) (n2 : Nat) (t0 t1 t2 t8 t9 t10 : V) (H : List Blk) : X := bnd (trimF true n2 [t0, t1, t2, t8, t9, t10] H) fun H => p (aBin .lss t9 t10) fun x1 => condK x1 ((fun (t0 t1 t2 t8 t9 t10 : V) (H : L) (c : Cx) (r2 : F6) => p (aBin .add t9 t10) fun x2 => p (aToInt .u64 x2) fun x3 => p (aBin .shr x3 (.d (.int .u64 1))) fun x4 => p (aToInt .i64 x4) fun x5 => p (aIx 2 t0 x5) fun x6 => (aLoad true 2 x6).go H fun x7 H => callK c.ic [t2, x7, t1] H fun x8 H => p (aBin .lss x8 (ci 0)) fun x9 => condK x9 (p (aBin .add x5 (ci 1)) fun x10 => r2 t0 t1 t2 t8 x10 t10 H) (r2 t0 t1 t2 t8 t9 x5 H)) t0 t1 t2 t8 t9 t10 H c r2) ((fun (t0 t1 t2 t8 t9 : V) (H : L) (c : Cx) => p (aBin .lss t9 t8) fun x11 => guardK x11 true (fun k => (aMov t2).go H k) H fun x12 H => (fun (t0 t1 t9 x11 x12 : V) (H : L) (c : Cx) => guardK x11 true (fun k => (aMov t0).go H k) H fun x13 H => guardK x11 true (fun k => (aMov t9).go H k) H fun x14 H => guardK x11 true (fun k => (aIx 2 x13 x14).go H k) H fun x15 H => guardK x11 true (fun k => (aLoad true 2 x15).go H k) H fun x16 H => (fun (t1 t9 x11 x12 x16 : V) (H : L) (c : Cx) => guardK x11 true (fun k => (aMov t1).go H k) H fun x17 H => guardK x11 true (callK c.ic [x12, x16, x17] H) H fun x18 H => guardK x11 true (fun k => (aBin .eql x18 (ci 0)).go H k) H fun x19 H => p (aPick x11 x19 cf) fun x20 => some (.tup [t9, x20], H)) t1 t9 x11 x12 x16 H c) t0 t1 t9 x11 x12 H c) t0 t1 t2 t8 t9 H c)
def j261_2 (c : Cx) : Nat → Nat → F6 := recN (fun _ _ _ _ _ _ _ _ => none) fun ih n2 => b261_2 c (ih n2) n2
theorem o261_2 (c : Cx) : d261_2 c = j261_2 c := by
  unfold j261_2
  refine recN_ok (by kernel_rfl) fun m => funext fun n2 => ?_
  funext t0 t1 t2 t8 t9 t10 H
  refine Eq.trans (jnK_eq 1125899906844423 _ _ H _) ?_
  kernel_rfl
def b261_1 (c : Cx) (j2 : Nat → Nat → F6) (t0 t1 t2 : V) (H : List Blk) : X := (aLen 1 t0).go H fun x1 H => j2 c.n H.length t0 t1 t2 x1 (ci 0) x1 H
def j261_1 (c : Cx) : F3 := b261_1 c (j261_2 c)
theorem o261_1 (c : Cx) : d261_1 c = j261_1 c := by
  unfold j261_1; rw [← o261_2]
  funext t0 t1 t2 H
  refine Eq.trans (stepK_jn c.pc c.ic c.n _ H _ 562949953421319 c261_1) ?_
  kernel_rfl
def b261_0 (c : Cx) (j1 : F3) (t0 t1 t2 : V) (H : List Blk) : X := j1 t0 t1 t2 H
def s261 (c : Cx) (args : List V) (H : List Blk) : X := argsK 3 args (b261_0 c (j261_1 c) (getT args 0) (getT args 1) (getT args 2) H)
theorem e261 (pc ic n args H) : runK pc ic n c261 args H = s261 ⟨pc, ic, n⟩ args H := by
  unfold s261; rw [← o261_1]
  kernel_rfl
def L261 : Leaf := ⟨c261, fun pc ic n => s261 ⟨pc, ic, n⟩, e261⟩
theorem kk261 : chkFn Go.Proofs.Tryz.prog ET 261 c261 = true := by kernel_rfl

def c262 : Fn := { fid := 262, np := 2, ntmps := 9, body := (.seq (.reg 1 none [o 2 (.box 0) [.t 0] 0, m 4 (.c (ci 0)) 1]) (.seq (.reg 0 none [o 5 (.fld 0) [.t 2] 0, o 6 (.load false 1) [.t 5] 1, m 7 (.t 1) 2, o 8 (.call 263) [.t 6, .t 7] 3, m 4 (.t 8) 4]) .ret)), res := [.tmp 4] }
def b262_0 (c : Cx) (t0 t1 : V) (H : List Blk) : X := newK 1 H fun q H => (aBox (q + 0) t0).go H fun x1 H => p (aFld 0 x1) fun x2 => (aLoad false 1 x2).go H fun x3 H => p (aCall c.pc 263 [x3, t1]) fun x4 => some (x4, H)
def s262 (c : Cx) (args : List V) (H : List Blk) : X := argsK 2 args (b262_0 c (getT args 0) (getT args 1) H)
theorem e262 (pc ic n args H) : runK pc ic n c262 args H = s262 ⟨pc, ic, n⟩ args H := by
  unfold s262
  kernel_rfl
def L262 : Leaf := ⟨c262, fun pc ic n => s262 ⟨pc, ic, n⟩, e262⟩
theorem kk262 : chkFn Go.Proofs.Tryz.prog ET 262 c262 = true := by kernel_rfl

def c263_1 : C := (.seq (.reg 0 none [m 4 (.c (ci 0)) 0]) (.seq (.reg 0 none [m 7 (.t 0) 0, o 8 (.call 297) [.t 7] 1, m 5 (.t 8) 2]) (.seq (.reg 0 none [m 9 (.t 1) 0, o 10 (.call 297) [.t 9] 1, m 6 (.t 10) 2]) (.seq (.seq (.reg 0 none [m 11 (.t 5) 0]) (.cond (.t 11) (.seq (.seq (.reg 0 none [m 12 (.t 6) 0]) (.cond (.t 12) (.seq (.reg 0 none [m 4 (.c (ci 0)) 0]) .ret) .skip)) (.seq (.reg 0 none [m 4 (.c (ci (-1))) 0]) .ret)) .skip)) (.seq (.seq (.reg 0 none [m 13 (.t 6) 0]) (.cond (.t 13) (.seq (.reg 0 none [m 4 (.c (ci 1)) 0]) .ret) .skip)) (.seq (.seq (.reg 0 none [m 14 (.t 0) 0, m 15 (.t 1) 1, o 16 (.bin .lss) [.t 14, .t 15] 2]) (.cond (.t 16) (.seq (.reg 0 none [m 4 (.c (ci (-1))) 0]) .ret) .skip)) (.seq (.seq (.reg 0 none [m 17 (.t 0) 0, m 18 (.t 1) 1, o 19 (.bin .gtr) [.t 17, .t 18] 2]) (.cond (.t 19) (.seq (.reg 0 none [m 4 (.c (ci 1)) 0]) .ret) .skip)) (.seq (.reg 0 none [m 4 (.c (ci 0)) 0]) .ret))))))))
def c263 : Fn := { fid := 263, np := 2, ntmps := 20, body := (.jn 1048579 c263_1), res := [.tmp 4] }
def d263_1 (c : Cx) (t0 t1 : V) (H : List Blk) : X := stepK c.pc c.ic c.n (.jn 1048579 c263_1) (cn 0 20 [(0, t0), (1, t1)]) H (kTop c263.res)
def b263_1 (c : Cx) (t0 t1 : V) (H : List Blk) : X := p (aCall c.pc 297 [t0]) fun x1 => p (aCall c.pc 297 [t1]) fun x2 => condK x1 (condK x2 (some ((ci 0), H)) (some ((ci (-1)), H))) ((fun (t0 t1 x2 : V) (H : L) => condK x2 (some ((ci 1), H)) (p (aBin .lss t0 t1) fun x3 => condK x3 (some ((ci (-1)), H)) (p (aBin .gtr t0 t1) fun x4 => condK x4 (some ((ci 1), H)) (some ((ci 0), H))))) t0 t1 x2 H)
def j263_1 (c : Cx) : F2 := b263_1 c
theorem o263_1 (c : Cx) : d263_1 c = j263_1 c := by
  unfold j263_1
  funext t0 t1 H
  refine Eq.trans (stepK_jn c.pc c.ic c.n _ H _ 1048579 c263_1) ?_
  kernel_rfl
def b263_0 (c : Cx) (j1 : F2) (t0 t1 : V) (H : List Blk) : X := j1 t0 t1 H
def s263 (c : Cx) (args : List V) (H : List Blk) : X := argsK 2 args (b263_0 c (j263_1 c) (getT args 0) (getT args 1) H)
theorem e263 (pc ic n args H) : runK pc ic n c263 args H = s263 ⟨pc, ic, n⟩ args H := by
  unfold s263; rw [← o263_1]
  kernel_rfl
def L263 : Leaf := ⟨c263, fun pc ic n => s263 ⟨pc, ic, n⟩, e263⟩
theorem kk263 : chkFn Go.Proofs.Tryz.prog ET 263 c263 = true := by kernel_rfl

def c265 : Fn := { fid := 265, np := 3, ntmps := 33, body := (.seq (.reg 0 none [m 6 (.c .nilS) 0]) (.seq (.reg 0 none [m 8 (.t 0) 0, m 9 (.t 1) 1, m 10 (.t 2) 2, m 11 (.t 0) 3, o 12 (.len 1) [.t 11] 4, o 13 (.sub 2 true true true) [.t 8, .t 9, .t 10, .t 12] 5]) (.seq (.seq (.reg 0 none [m 14 (.t 1) 0, m 15 (.t 2) 1, o 16 (.bin .eql) [.t 14, .t 15] 2]) (.cond (.t 16) (.seq (.reg 0 none [m 17 (.t 0) 0, m 6 (.t 17) 1]) .ret) .skip)) (.seq (.reg 0 none [m 18 (.t 0) 0, o 19 (.len 1) [.t 18] 1, m 7 (.t 19) 2]) (.seq (.reg 1 (some ⟨true, [], 33⟩) [m 20 (.t 0) 0, m 21 (.t 1) 1, ⟨some 22, .sub 2 false true false, [.t 20, .t 21], none, 3, 2⟩, m 23 (.t 0) 3, m 24 (.t 2) 4, ⟨some 25, .sub 2 true false false, [.t 23, .t 24], none, 24, 5⟩, ⟨some 26, .appA 0 2 24, [.t 22, .t 25], none, 63, 6⟩, ⟨some 0, .mov, [.t 26], none, 127, 7⟩]) (.seq (.reg 0 none [m 27 (.t 0) 0, m 28 (.t 0) 1, o 29 (.len 1) [.t 28] 2, m 30 (.t 7) 3, o 31 (.sub 2 true true false) [.t 27, .t 29, .t 30] 4, ⟨none, .clear 2 z6, [.t 31], none, 0, 5⟩]) (.seq (.reg 0 none [m 32 (.t 0) 0, m 6 (.t 32) 1]) .ret))))))), res := [.tmp 6] }
def L265 : Leaf := coldL c265
theorem kk265 : chkFn Go.Proofs.Tryz.prog ET 265 c265 = true := by kernel_rfl

def c266 : Fn := { fid := 266, np := 3, ntmps := 33, body := (.seq (.reg 0 none [m 6 (.c .nilS) 0]) (.seq (.reg 0 none [m 8 (.t 0) 0, m 9 (.t 1) 1, m 10 (.t 2) 2, m 11 (.t 0) 3, o 12 (.len 1) [.t 11] 4, o 13 (.sub 8 true true true) [.t 8, .t 9, .t 10, .t 12] 5]) (.seq (.seq (.reg 0 none [m 14 (.t 1) 0, m 15 (.t 2) 1, o 16 (.bin .eql) [.t 14, .t 15] 2]) (.cond (.t 16) (.seq (.reg 0 none [m 17 (.t 0) 0, m 6 (.t 17) 1]) .ret) .skip)) (.seq (.reg 0 none [m 18 (.t 0) 0, o 19 (.len 1) [.t 18] 1, m 7 (.t 19) 2]) (.seq (.reg 1 (some ⟨true, [], 33⟩) [m 20 (.t 0) 0, m 21 (.t 1) 1, ⟨some 22, .sub 8 false true false, [.t 20, .t 21], none, 3, 2⟩, m 23 (.t 0) 3, m 24 (.t 2) 4, ⟨some 25, .sub 8 true false false, [.t 23, .t 24], none, 24, 5⟩, ⟨some 26, .appA 0 8 104, [.t 22, .t 25], none, 63, 6⟩, ⟨some 0, .mov, [.t 26], none, 127, 7⟩]) (.seq (.reg 0 none [m 27 (.t 0) 0, m 28 (.t 0) 1, o 29 (.len 1) [.t 28] 2, m 30 (.t 7) 3, o 31 (.sub 8 true true false) [.t 27, .t 29, .t 30] 4, ⟨none, .clear 8 z1, [.t 31], none, 0, 5⟩]) (.seq (.reg 0 none [m 32 (.t 0) 0, m 6 (.t 32) 1]) .ret))))))), res := [.tmp 6] }
def L266 : Leaf := coldL c266
theorem kk266 : chkFn Go.Proofs.Tryz.prog ET 266 c266 = true := by kernel_rfl

def c268_1 : C := (.seq (.reg 1 none [o 2 (.box 0) [.t 0] 0, m 4 (.c cf) 1]) (.seq (.reg 0 none [m 5 (.t 1) 0, o 6 (.bin .geq) [.t 5, .c (ci 0)] 1, m 7 (.t 6) 2, ⟨some 8, .mov, [.t 1], some (7, true), 0, 3⟩, ⟨some 9, .fld 0, [.t 2], some (7, true), 0, 4⟩, ⟨some 10, .load false 1, [.t 9], some (7, true), 0, 5⟩, ⟨some 11, .len 1, [.t 10], some (7, true), 0, 6⟩, ⟨some 12, .bin .lss, [.t 8, .t 11], some (7, true), 0, 7⟩, o 13 .pick [.t 7, .t 12, .c cf] 8, m 14 (.t 13) 9, ⟨some 15, .fld 0, [.t 2], some (14, true), 0, 10⟩, ⟨some 16, .load false 1, [.t 15], some (14, true), 0, 11⟩, ⟨some 17, .mov, [.t 1], some (14, true), 0, 12⟩, ⟨some 18, .ix 1, [.t 16, .t 17], some (14, true), 0, 13⟩, ⟨some 19, .load false 1, [.t 18], some (14, true), 0, 14⟩, ⟨some 20, .bin .eql, [.t 19, .c (ci 1)], some (14, true), 0, 15⟩, ⟨some 21, .mov, [.t 20], some (14, true), 0, 16⟩, ⟨some 22, .fld 0, [.t 2], some (21, false), 0, 17⟩, ⟨some 23, .load false 1, [.t 22], some (21, false), 0, 18⟩, ⟨some 24, .mov, [.t 1], some (21, false), 0, 19⟩, ⟨some 25, .ix 1, [.t 23, .t 24], some (21, false), 0, 20⟩, ⟨some 26, .load false 1, [.t 25], some (21, false), 0, 21⟩, ⟨some 27, .bin .eql, [.t 26, .c (ci 3)], some (21, false), 0, 22⟩, ⟨some 28, .pick, [.t 21, .c ct, .t 27], some (14, true), 0, 23⟩, o 29 .pick [.t 14, .t 28, .c cf] 24, m 4 (.t 29) 25]) .ret))
def c268 : Fn := { fid := 268, np := 2, ntmps := 30, body := (.jn 1073741827 c268_1), res := [.tmp 4] }
def d268_1 (c : Cx) (t0 t1 : V) (H : List Blk) : X := stepK c.pc c.ic c.n (.jn 1073741827 c268_1) (cn 0 30 [(0, t0), (1, t1)]) H (kTop c268.res)
def b268_1 (c : Cx) (t0 t1 : V) (H : List Blk) : X := newK 1 H fun q H => (aBox (q + 0) t0).go H fun x1 H => p (aBin .geq t1 (ci 0)) fun x2 => guardK x2 true (fun k => (aMov t1).go H k) H fun x3 H => (fun (t1 x1 x2 x3 : V) (H : L) => guardK x2 true (fun k => (aFld 0 x1).go H k) H fun x4 H => guardK x2 true (fun k => (aLoad false 1 x4).go H k) H fun x5 H => guardK x2 true (fun k => (aLen 1 x5).go H k) H fun x6 H => guardK x2 true (fun k => (aBin .lss x3 x6).go H k) H fun x7 H => (fun (t1 x1 x2 x7 : V) (H : L) => p (aPick x2 x7 cf) fun x8 => guardK x8 true (fun k => (aFld 0 x1).go H k) H fun x9 H => guardK x8 true (fun k => (aLoad false 1 x9).go H k) H fun x10 H => guardK x8 true (fun k => (aMov t1).go H k) H fun x11 H => (fun (t1 x1 x8 x10 x11 : V) (H : L) => guardK x8 true (fun k => (aIx 1 x10 x11).go H k) H fun x12 H => guardK x8 true (fun k => (aLoad false 1 x12).go H k) H fun x13 H => guardK x8 true (fun k => (aBin .eql x13 (ci 1)).go H k) H fun x14 H => guardK x8 true (fun k => (aMov x14).go H k) H fun x15 H => (fun (t1 x1 x8 x15 : V) (H : L) => guardK x15 false (fun k => (aFld 0 x1).go H k) H fun x16 H => guardK x15 false (fun k => (aLoad false 1 x16).go H k) H fun x17 H => guardK x15 false (fun k => (aMov t1).go H k) H fun x18 H => guardK x15 false (fun k => (aIx 1 x17 x18).go H k) H fun x19 H => (fun (x8 x15 x19 : V) (H : L) => guardK x15 false (fun k => (aLoad false 1 x19).go H k) H fun x20 H => guardK x15 false (fun k => (aBin .eql x20 (ci 3)).go H k) H fun x21 H => guardK x8 true (fun k => (aPick x15 ct x21).go H k) H fun x22 H => p (aPick x8 x22 cf) fun x23 => some (x23, H)) x8 x15 x19 H) t1 x1 x8 x15 H) t1 x1 x8 x10 x11 H) t1 x1 x2 x7 H) t1 x1 x2 x3 H
def j268_1 (c : Cx) : F2 := b268_1 c
theorem o268_1 (c : Cx) : d268_1 c = j268_1 c := by
  unfold j268_1
  funext t0 t1 H
  refine Eq.trans (stepK_jn c.pc c.ic c.n _ H _ 1073741827 c268_1) ?_
  kernel_rfl
def b268_0 (c : Cx) (j1 : F2) (t0 t1 : V) (H : List Blk) : X := j1 t0 t1 H
def s268 (c : Cx) (args : List V) (H : List Blk) : X := argsK 2 args (b268_0 c (j268_1 c) (getT args 0) (getT args 1) H)
theorem e268 (pc ic n args H) : runK pc ic n c268 args H = s268 ⟨pc, ic, n⟩ args H := by
  unfold s268; rw [← o268_1]
  kernel_rfl
def L268 : Leaf := ⟨c268, fun pc ic n => s268 ⟨pc, ic, n⟩, e268⟩
theorem kk268 : chkFn Go.Proofs.Tryz.prog ET 268 c268 = true := by kernel_rfl

def c269 : Fn := { fid := 269, np := 2, ntmps := 8, body := (.seq (.reg 1 none [o 2 (.box 0) [.t 0] 0, m 4 (.c cf) 1]) (.seq (.reg 0 none [o 5 (.load true 4) [.t 2] 0, m 6 (.t 1) 1, o 7 (.call 281) [.t 5, .t 6, .c (.d (.str [46, 119, 104, 46, 46, 119, 104, 46, 46, 111, 112, 113]))] 2, m 4 (.t 7) 3]) .ret)), res := [.tmp 4] }
def b269_0 (c : Cx) (t0 t1 : V) (H : List Blk) : X := newK 1 H fun q H => (aBox (q + 0) t0).go H fun x1 H => (aLoad true 4 x1).go H fun x2 H => p (aCall c.pc 281 [x2, t1, (.d (.str [46, 119, 104, 46, 46, 119, 104, 46, 46, 111, 112, 113]))]) fun x3 => some (x3, H)
def s269 (c : Cx) (args : List V) (H : List Blk) : X := argsK 2 args (b269_0 c (getT args 0) (getT args 1) H)
theorem e269 (pc ic n args H) : runK pc ic n c269 args H = s269 ⟨pc, ic, n⟩ args H := by
  unfold s269
  kernel_rfl
def L269 : Leaf := ⟨c269, fun pc ic n => s269 ⟨pc, ic, n⟩, e269⟩
theorem kk269 : chkFn Go.Proofs.Tryz.prog ET 269 c269 = true := by kernel_rfl

def c270 : Fn := { fid := 270, np := 2, ntmps := 18, body := (.seq (.reg 0 none [m 4 (.c cf) 0]) (.seq (.reg 0 none [m 5 (.t 0) 0, o 6 (.len 0) [.t 5] 1, m 7 (.t 1) 2, o 8 (.len 0) [.t 7] 3, o 9 (.bin .geq) [.t 6, .t 8] 4, m 10 (.t 9) 5, ⟨some 11, .mov, [.t 0], some (10, true), 0, 6⟩, ⟨some 12, .mov, [.t 1], some (10, true), 0, 7⟩, ⟨some 13, .len 0, [.t 12], some (10, true), 0, 8⟩, ⟨some 14, .subStr false true, [.t 11, .t 13], some (10, true), 0, 9⟩, ⟨some 15, .mov, [.t 1], some (10, true), 0, 10⟩, ⟨some 16, .bin .eql, [.t 14, .t 15], some (10, true), 0, 11⟩, o 17 .pick [.t 10, .t 16, .c cf] 12, m 4 (.t 17) 13]) .ret)), res := [.tmp 4] }
def L270 : Leaf := coldL c270
theorem kk270 : chkFn Go.Proofs.Tryz.prog ET 270 c270 = true := by kernel_rfl

def c273 : Fn := { fid := 273, np := 2, ntmps := 9, body := (.seq (.reg 1 none [o 2 (.box 0) [.t 0] 0, m 4 (.c (ci 0)) 1]) (.seq (.reg 0 none [o 5 (.fld 0) [.t 2] 0, o 6 (.load false 1) [.t 5] 1, m 7 (.t 1) 2, o 8 (.call 165) [.t 6, .t 7] 3, m 4 (.t 8) 4]) .ret)), res := [.tmp 4] }
def b273_0 (c : Cx) (t0 t1 : V) (H : List Blk) : X := newK 1 H fun q H => (aBox (q + 0) t0).go H fun x1 H => p (aFld 0 x1) fun x2 => (aLoad false 1 x2).go H fun x3 H => p (aCall c.pc 165 [x3, t1]) fun x4 => some (x4, H)
def s273 (c : Cx) (args : List V) (H : List Blk) : X := argsK 2 args (b273_0 c (getT args 0) (getT args 1) H)
theorem e273 (pc ic n args H) : runK pc ic n c273 args H = s273 ⟨pc, ic, n⟩ args H := by
  unfold s273
  kernel_rfl
def L273 : Leaf := ⟨c273, fun pc ic n => s273 ⟨pc, ic, n⟩, e273⟩
theorem kk273 : chkFn Go.Proofs.Tryz.prog ET 273 c273 = true := by kernel_rfl

def c274_5 : C := (.seq (.seq (.reg 0 (some ⟨true, [], 134⟩) [m 73 (.t 1) 0, ⟨some 74, .bin .gtr, [.t 73, .c (ci 0)], none, 1, 1⟩, ⟨some 75, .mov, [.t 74], none, 3, 2⟩, ⟨some 76, .mov, [.t 0], some (75, true), 7, 3⟩, ⟨some 77, .mov, [.t 1], some (75, true), 7, 4⟩, ⟨some 78, .bin .sub, [.t 77, .c (ci 1)], some (75, true), 23, 5⟩, ⟨some 79, .ix 1, [.t 76, .t 78], some (75, true), 63, 6⟩, ⟨some 80, .load false 1, [.t 79], some (75, true), 127, 7⟩, ⟨some 81, .mov, [.t 0], some (75, true), 7, 8⟩, ⟨some 82, .mov, [.t 11], some (75, true), 7, 9⟩, ⟨some 83, .ix 1, [.t 81, .t 82], some (75, true), 775, 10⟩, ⟨some 84, .load false 1, [.t 83], some (75, true), 1799, 11⟩, ⟨some 85, .call 310, [.t 80, .t 84], some (75, true), 4095, 12⟩, ⟨some 86, .un .not, [.t 85], some (75, true), 8191, 13⟩, ⟨some 87, .pick, [.t 75, .t 86, .c cf], none, 16383, 14⟩]) (.cond (.t 87) (.seq (.reg 0 none [m 88 (.t 0) 0, m 89 (.t 1) 1, m 90 (.t 2) 2, m 91 (.t 11) 3, o 92 (.icall 311) [.t 88, .t 89, .t 90, .t 91] 4, m 13 (.t 92) 5]) (.seq (.reg 0 none [m 93 (.t 13) 0, m 1 (.t 93) 1]) (.exit 1))) .skip)) (.seq (.reg 0 none [m 95 (.t 0) 0, m 96 (.t 1) 1, m 97 (.t 2) 2, m 98 (.t 11) 3, o 99 (.icall 312) [.t 95, .t 96, .t 97, .t 98] 4, m 94 (.t 99) 5, o 100 (.ext 0) [.t 94] 6, o 101 (.ext 1) [.t 94] 7, m 14 (.t 100) 8, m 15 (.t 101) 9]) (.seq (.reg 0 none [m 102 (.t 15) 0, m 9 (.t 102) 1]) (.seq (.reg 0 none [m 103 (.t 14) 0, m 104 (.t 1) 1, o 105 (.bin .sub) [.t 103, .t 104] 2, m 106 (.t 2) 3, m 107 (.t 14) 4, o 108 (.bin .sub) [.t 106, .t 107] 5, m 16 (.t 105) 6, m 17 (.t 108) 7]) (.seq (.reg 0 none [m 109 (.t 10) 0, o 110 (.bin .quo) [.t 109, .c (ci 8)] 1, m 18 (.t 110) 2]) (.seq (.reg 0 none [m 111 (.t 16) 0, m 112 (.t 17) 1, o 113 (.bin .lss) [.t 111, .t 112] 2]) (.cond (.t 113) (.seq (.reg 0 none [m 114 (.t 16) 0, m 115 (.t 18) 1, o 116 (.bin .geq) [.t 114, .t 115] 2, m 8 (.t 116) 3]) (.seq (.reg 0 none [m 117 (.t 0) 0, m 118 (.t 1) 1, m 119 (.t 14) 2, m 120 (.t 3) 3, o 121 (.icall 274) [.t 117, .t 118, .t 119, .t 120] 4]) (.reg 0 none [m 122 (.t 14) 0, o 123 (.bin .add) [.t 122, .c (ci 1)] 1, m 1 (.t 123) 2]))) (.seq (.reg 0 none [m 124 (.t 17) 0, m 125 (.t 18) 1, o 126 (.bin .geq) [.t 124, .t 125] 2, m 8 (.t 126) 3]) (.seq (.reg 0 none [m 127 (.t 0) 0, m 128 (.t 14) 1, o 129 (.bin .add) [.t 128, .c (ci 1)] 2, m 130 (.t 2) 3, m 131 (.t 3) 4, o 132 (.icall 274) [.t 127, .t 129, .t 130, .t 131] 5]) (.reg 0 none [m 133 (.t 14) 0, m 2 (.t 133) 1]))))))))))
def c274_4 : C := (.seq (.seq (.reg 0 none [m 61 (.t 8) 0, m 62 (.t 61) 1, ⟨some 63, .mov, [.t 9], some (62, true), 0, 2⟩, o 64 .pick [.t 62, .t 63, .c cf] 3, m 65 (.t 64) 4, ⟨some 66, .mov, [.t 12], some (65, true), 0, 5⟩, ⟨some 67, .bin .eql, [.t 66, .c (ci 1)], some (65, true), 0, 6⟩, o 68 .pick [.t 65, .t 67, .c cf] 7]) (.cond (.t 68) (.seq (.reg 0 none [m 69 (.t 0) 0, m 70 (.t 1) 1, m 71 (.t 2) 2, o 72 (.icall 309) [.t 69, .t 70, .t 71] 3]) (.cond (.t 72) .ret .skip)) .skip)) (.jn 108890357414700308308279874378165827669775 c274_5))
def c274_3 : C := (.seq (.reg 0 none [m 43 (.t 0) 0, m 44 (.t 1) 1, m 45 (.t 2) 2, o 46 (.icall 307) [.t 43, .t 44, .t 45] 3, m 42 (.t 46) 4, o 47 (.ext 0) [.t 42] 5, o 48 (.ext 1) [.t 42] 6, m 11 (.t 47) 7, m 12 (.t 48) 8]) (.seq (.seq (.reg 0 none [m 49 (.t 12) 0, o 50 (.bin .eql) [.t 49, .c (ci 2)] 1]) (.cond (.t 50) (.seq (.reg 0 none [m 51 (.t 0) 0, m 52 (.t 1) 1, m 53 (.t 2) 2, o 54 (.icall 308) [.t 51, .t 52, .t 53] 3]) (.seq (.reg 0 none [m 55 (.t 2) 0, o 56 (.bin .sub) [.t 55, .c (ci 1)] 1, m 57 (.t 11) 2, m 58 (.t 1) 3, o 59 (.bin .sub) [.t 57, .t 58] 4, o 60 (.bin .sub) [.t 56, .t 59] 5, m 11 (.t 60) 6]) (.reg 0 none [m 12 (.c (ci 1)) 0]))) .skip)) (.jn 87112285931760246646623899502532662140687 c274_4)))
def c274_2 : C := (.blk 1 (.seq (.reg 0 none [m 19 (.t 2) 0, m 20 (.t 1) 1, o 21 (.bin .sub) [.t 19, .t 20] 2, m 10 (.t 21) 3]) (.seq (.seq (.reg 0 none [m 22 (.t 10) 0, o 23 (.bin .leq) [.t 22, .c (ci 12)] 1]) (.cond (.t 23) (.seq (.reg 0 none [m 24 (.t 0) 0, m 25 (.t 1) 1, m 26 (.t 2) 2, o 27 (.icall 304) [.t 24, .t 25, .t 26] 3]) .ret) .skip)) (.seq (.seq (.reg 0 none [m 28 (.t 3) 0, o 29 (.bin .eql) [.t 28, .c (ci 0)] 1]) (.cond (.t 29) (.seq (.reg 0 none [m 30 (.t 0) 0, m 31 (.t 1) 1, m 32 (.t 2) 2, o 33 (.icall 305) [.t 30, .t 31, .t 32] 3]) .ret) .skip)) (.seq (.seq (.reg 0 none [m 34 (.t 8) 0, o 35 (.un .not) [.t 34] 1]) (.cond (.t 35) (.seq (.reg 0 none [m 36 (.t 0) 0, m 37 (.t 1) 1, m 38 (.t 2) 2, o 39 (.icall 306) [.t 36, .t 37, .t 38] 3]) (.reg 0 none [m 40 (.t 3) 0, o 41 (.bin .sub) [.t 40, .c (ci 1)] 1, m 3 (.t 41) 2])) .skip)) (.jn 65334214448820184984967924626899496601359 c274_3))))))
def c274_1 : C := (.seq (.reg 0 none [m 8 (.c ct) 0]) (.seq (.reg 0 none [m 9 (.c ct) 0]) (.blk 0 (.loop 43556142965880123323311949751266331067151 false c274_2))))
def c274 : Fn := { fid := 274, np := 4, ntmps := 134, body := (.jn 21778071482940061661655974875633165533199 c274_1), res := [] }
def L274 : Leaf := coldL c274
theorem kk274 : chkFn Go.Proofs.Tryz.prog ET 274 c274 = true := by kernel_rfl

def c275 : Fn := { fid := 275, np := 1, ntmps := 8, body := (.seq (.reg 0 none [m 2 (.c (ci 0)) 0]) (.seq (.cond (.c cf) (.seq (.reg 0 none [m 3 (.t 0) 0, o 4 (.toInt .u32) [.t 3] 1, o 5 (.call 313) [.t 4] 2, m 2 (.t 5) 3]) .ret) .skip) (.seq (.reg 0 none [m 6 (.t 0) 0, o 7 (.call 314) [.t 6] 1, m 2 (.t 7) 2]) .ret))), res := [.tmp 2] }
def L275 : Leaf := coldL c275
theorem kk275 : chkFn Go.Proofs.Tryz.prog ET 275 c275 = true := by kernel_rfl

def c278_1 : C := (.seq (.reg 2 none [o 3 (.box 0) [.t 0] 0, o 6 (.alloc 1 z0) [] 1]) (.seq (.reg 1 none [o 10 (.load true 4) [.t 3] 0, m 11 (.t 1) 1, o 12 (.call 16) [.t 10, .t 11] 2, m 9 (.t 12) 3, o 13 (.ext 0) [.t 9] 4, o 14 (.ext 1) [.t 9] 5, o 7 (.alloc 0 z1) [] 6, ⟨none, .store 8, [.t 7, .t 13], none, 0, 7⟩, m 8 (.t 14) 8]) (.seq (.reg 0 (some ⟨true, [], 20⟩) [o 15 (.load true 4) [.t 3] 0, o 16 (.load true 8) [.t 7] 1, m 17 (.t 2) 2, ⟨some 18, .call 185, [.t 16, .t 17], none, 6, 3⟩, ⟨some 19, .call 103, [.t 15, .t 18], none, 15, 4⟩, ⟨none, .store 4, [.t 6, .t 19], none, 31, 5⟩]) .ret)))
def c278 : Fn := { fid := 278, np := 3, ntmps := 20, body := (.jn 1048583 c278_1), res := [.cell 6 true 4] }
def L278 : Leaf := coldL c278
theorem kk278 : chkFn Go.Proofs.Tryz.prog ET 278 c278 = true := by kernel_rfl

def c281_1 : C := (.seq (.reg 1 none [o 3 (.box 0) [.t 0] 0, m 6 (.c cf) 1]) (.seq (.reg 1 none [o 12 (.load true 4) [.t 3] 0, m 13 (.t 1) 1, o 14 (.call 16) [.t 12, .t 13] 2, m 11 (.t 14) 3, o 15 (.ext 0) [.t 11] 4, o 16 (.ext 1) [.t 11] 5, o 7 (.alloc 0 z1) [] 6, ⟨none, .store 8, [.t 7, .t 15], none, 0, 7⟩, m 8 (.t 16) 8]) (.seq (.reg 0 none [o 18 (.load true 8) [.t 7] 0, m 19 (.t 2) 1, o 20 (.call 44) [.t 18, .t 19] 2, m 17 (.t 20) 3, o 21 (.ext 0) [.t 17] 4, o 22 (.ext 1) [.t 17] 5, m 9 (.t 21) 6, m 10 (.t 22) 7]) (.seq (.reg 0 none [m 23 (.t 10) 0, m 24 (.t 23) 1, ⟨some 25, .fld 1, [.t 7], some (24, true), 0, 2⟩, ⟨some 26, .load false 1, [.t 25], some (24, true), 0, 3⟩, ⟨some 27, .bin .eql, [.t 26, .c (ci 2)], some (24, true), 0, 4⟩, o 28 .pick [.t 24, .t 27, .c cf] 5, m 6 (.t 28) 6]) .ret))))
def c281 : Fn := { fid := 281, np := 3, ntmps := 29, body := (.jn 536870919 c281_1), res := [.tmp 6] }
def d281_1 (c : Cx) (t0 t1 t2 : V) (H : List Blk) : X := stepK c.pc c.ic c.n (.jn 536870919 c281_1) (cn 0 29 [(0, t0), (1, t1), (2, t2)]) H (kTop c281.res)
def b281_1 (c : Cx) (t0 t1 t2 : V) (H : List Blk) : X := newK 1 H fun q H => (aBox (q + 0) t0).go H fun x1 H => newK 1 H fun q H => (aLoad true 4 x1).go H fun x2 H => p (aCall c.pc 16 [x2, t1]) fun x3 => (fun (t2 x3 : V) (q : Nat) (H : L) (c : Cx) => p (aExt 0 x3) fun x4 => p (aExt 1 x3) fun x5 => (aAlloc (q + 0) z1).go H fun x6 H => (aStore 8 x6 x4).go H fun _ H => (aLoad true 8 x6).go H fun x7 H => p (aCall c.pc 44 [x7, t2]) fun x8 => p (aExt 0 x8) fun x9 => p (aExt 1 x8) fun x10 => guardK x10 true (fun k => (aFld 1 x6).go H k) H fun x11 H => guardK x10 true (fun k => (aLoad false 1 x11).go H k) H fun x12 H => guardK x10 true (fun k => (aBin .eql x12 (ci 2)).go H k) H fun x13 H => p (aPick x10 x13 cf) fun x14 => some (x14, H)) t2 x3 q H c
def j281_1 (c : Cx) : F3 := b281_1 c
theorem o281_1 (c : Cx) : d281_1 c = j281_1 c := by
  unfold j281_1
  funext t0 t1 t2 H
  refine Eq.trans (stepK_jn c.pc c.ic c.n _ H _ 536870919 c281_1) ?_
  kernel_rfl
def b281_0 (c : Cx) (j1 : F3) (t0 t1 t2 : V) (H : List Blk) : X := j1 t0 t1 t2 H
def s281 (c : Cx) (args : List V) (H : List Blk) : X := argsK 3 args (b281_0 c (j281_1 c) (getT args 0) (getT args 1) (getT args 2) H)
theorem e281 (pc ic n args H) : runK pc ic n c281 args H = s281 ⟨pc, ic, n⟩ args H := by
  unfold s281; rw [← o281_1]
  kernel_rfl
def L281 : Leaf := ⟨c281, fun pc ic n => s281 ⟨pc, ic, n⟩, e281⟩
theorem kk281 : chkFn Go.Proofs.Tryz.prog ET 281 c281 = true := by kernel_rfl

def c283_2 : C := (.seq (.seq (.reg 0 none [m 6 (.t 5) 0, o 7 (.fld 1) [.t 2] 1, o 8 (.load false 1) [.t 7] 2, o 9 (.len 1) [.t 8] 3, o 10 (.bin .lss) [.t 6, .t 9] 4]) (.cond (.t 10) .skip (.exit 0))) (.seq (.blk 1 (.seq (.reg 0 none [o 13 (.fld 1) [.t 2] 0, o 14 (.load false 1) [.t 13] 1, m 15 (.t 5) 2, o 16 (.ix 2) [.t 14, .t 15] 3, o 17 (.fld 0) [.t 16] 4, o 18 (.load false 1) [.t 17] 5, m 19 (.t 1) 6, o 20 (.bin .eql) [.t 18, .t 19] 7]) (.cond (.t 20) (.seq (.reg 0 none [m 21 (.t 5) 0, m 4 (.t 21) 1]) .ret) .skip))) (.reg 0 none [m 11 (.t 5) 0, o 12 (.bin .add) [.t 11, .c (ci 1)] 1, m 5 (.t 12) 2])))
def c283_s1 : C := (.seq (.reg 0 none [m 4 (.c (ci (-1))) 0]) .ret)
def c283_1 : C := (.seq (.reg 1 none [o 2 (.box 0) [.t 0] 0, m 4 (.c (ci 0)) 1]) (.seq (.seq (.reg 0 none [m 5 (.c (ci 0)) 0]) (.blk 0 (.loop 8388646 false c283_2))) c283_s1))
def c283 : Fn := { fid := 283, np := 2, ntmps := 22, body := (.jn 4194307 c283_1), res := [.tmp 4] }
def L283 : Leaf := coldL c283
theorem kk283 : chkFn Go.Proofs.Tryz.prog ET 283 c283 = true := by kernel_rfl

def c285_3 : C := (.seq (.seq (.reg 0 none [m 64 (.t 5) 0, o 65 (.bin .lss) [.t 64, .c (ci 16)] 1]) (.cond (.t 65) .skip (.exit 2))) (.seq (.blk 3 (.seq (.reg 0 none [o 68 (.fld 0) [.t 4] 0, o 69 (.load false 1) [.t 68] 1, o 70 (.bin .mul) [.t 69, .c (ci 16)] 2, m 71 (.t 5) 3, o 72 (.bin .add) [.t 70, .t 71] 4, o 73 (.fld 0) [.t 1] 5, o 74 (.load false 1) [.t 73] 6, o 75 (.bin .geq) [.t 72, .t 74] 7, m 76 (.t 75) 8, ⟨some 77, .fld 1, [.t 4], some (76, true), 0, 9⟩, ⟨some 78, .load false 1, [.t 77], some (76, true), 0, 10⟩, ⟨some 79, .mov, [.t 5], some (76, true), 0, 11⟩, ⟨some 80, .ix 1, [.t 78, .t 79], some (76, true), 0, 12⟩, ⟨some 81, .load false 1, [.t 80], some (76, true), 0, 13⟩, ⟨some 82, .bin .neq, [.t 81, .c (.d (.int .u8 0))], some (76, true), 0, 14⟩, o 83 .pick [.t 76, .t 82, .c cf] 15]) (.cond (.t 83) (.seq (.reg 0 none [m 2 (.c cf) 0]) .ret) .skip))) (.reg 0 none [m 66 (.t 5) 0, o 67 (.bin .add) [.t 66, .c (ci 1)] 1, m 5 (.t 67) 2])))
def c285_s1 : C := (.reg 0 none [m 19 (.t 3) 0, o 20 (.bin .add) [.t 19, .c (ci 1)] 1, m 3 (.t 20) 2])
def c285_2 : C := (.seq (.seq (.reg 0 none [m 14 (.t 3) 0, o 15 (.fld 1) [.t 1] 1, o 16 (.load false 1) [.t 15] 2, o 17 (.len 1) [.t 16] 3, o 18 (.bin .lss) [.t 14, .t 17] 4]) (.cond (.t 18) .skip (.exit 0))) (.seq (.blk 1 (.seq (.reg 1 none [o 21 (.fld 1) [.t 1] 0, o 22 (.load false 1) [.t 21] 1, m 23 (.t 3) 2, o 24 (.ix 2) [.t 22, .t 23] 3, o 25 (.load true 2) [.t 24] 4, o 4 (.alloc 0 [(ci 0), .nilS]) [] 5, ⟨none, .store 2, [.t 4, .t 25], none, 0, 6⟩]) (.seq (.seq (.reg 0 (some ⟨true, [], 84⟩) [o 26 (.fld 0) [.t 4] 0, ⟨some 27, .load false 1, [.t 26], none, 1, 1⟩, ⟨some 28, .bin .lss, [.t 27, .c (ci 0)], none, 3, 2⟩, ⟨some 29, .mov, [.t 28], none, 7, 3⟩, ⟨some 30, .fld 0, [.t 4], some (29, false), 15, 4⟩, ⟨some 31, .load false 1, [.t 30], some (29, false), 31, 5⟩, ⟨some 32, .bin .geq, [.t 31, .c (ci 32768)], some (29, false), 63, 6⟩, ⟨some 33, .pick, [.t 29, .c ct, .t 32], none, 127, 7⟩, ⟨some 34, .mov, [.t 33], none, 255, 8⟩, ⟨some 35, .fld 0, [.t 4], some (34, false), 511, 9⟩, ⟨some 36, .load false 1, [.t 35], some (34, false), 1023, 10⟩, ⟨some 37, .bin .mul, [.t 36, .c (ci 16)], some (34, false), 2047, 11⟩, ⟨some 38, .fld 0, [.t 1], some (34, false), 511, 12⟩, ⟨some 39, .load false 1, [.t 38], some (34, false), 4607, 13⟩, ⟨some 40, .bin .geq, [.t 37, .t 39], some (34, false), 16383, 14⟩, ⟨some 41, .pick, [.t 34, .c ct, .t 40], none, 32767, 15⟩, ⟨some 42, .mov, [.t 41], none, 65535, 16⟩, ⟨some 43, .fld 1, [.t 4], some (42, false), 131071, 17⟩, ⟨some 44, .load false 1, [.t 43], some (42, false), 262143, 18⟩, ⟨some 45, .len 1, [.t 44], some (42, false), 524287, 19⟩, ⟨some 46, .bin .neq, [.t 45, .c (ci 16)], some (42, false), 1048575, 20⟩, ⟨some 47, .pick, [.t 42, .c ct, .t 46], none, 2097151, 21⟩, ⟨some 48, .mov, [.t 47], none, 4194303, 22⟩, ⟨some 49, .mov, [.t 3], some (48, false), 8388607, 23⟩, ⟨some 50, .bin .gtr, [.t 49, .c (ci 0)], some (48, false), 16777215, 24⟩, ⟨some 51, .mov, [.t 50], some (48, false), 33554431, 25⟩, ⟨some 52, .fld 0, [.t 4], some (51, true), 67108863, 26⟩, ⟨some 53, .load false 1, [.t 52], some (51, true), 134217727, 27⟩, ⟨some 54, .fld 1, [.t 1], some (51, true), 67108863, 28⟩, ⟨some 55, .load false 1, [.t 54], some (51, true), 335544319, 29⟩, ⟨some 56, .mov, [.t 3], some (51, true), 67108863, 30⟩, ⟨some 57, .bin .sub, [.t 56, .c (ci 1)], some (51, true), 1140850687, 31⟩, ⟨some 58, .ix 2, [.t 55, .t 57], some (51, true), 4093640703, 32⟩, ⟨some 59, .fld 0, [.t 58], some (51, true), 8388607999, 33⟩, ⟨some 60, .load false 1, [.t 59], some (51, true), 16978542591, 34⟩, ⟨some 61, .bin .leq, [.t 53, .t 60], some (51, true), 34359738367, 35⟩, ⟨some 62, .pick, [.t 51, .t 61, .c cf], some (48, false), 68719476735, 36⟩, ⟨some 63, .pick, [.t 48, .c ct, .t 62], none, 137438953471, 37⟩]) (.cond (.t 63) (.seq (.reg 0 none [m 2 (.c cf) 0]) .ret) .skip)) (.seq (.reg 0 none [m 5 (.c (ci 0)) 0]) (.blk 2 (.loop 58028439341502200385896506 false c285_3)))))) c285_s1))
def c285_s2 : C := (.seq (.reg 0 none [m 2 (.c ct) 0]) .ret)
def c285_1 : C := (.seq (.reg 1 none [o 1 (.box 0) [.t 0] 0, m 2 (.c cf) 1]) (.seq (.seq (.reg 0 none [o 6 (.fld 0) [.t 1] 0, o 7 (.load false 1) [.t 6] 1, o 8 (.bin .lss) [.t 7, .c (ci 0)] 2, m 9 (.t 8) 3, ⟨some 10, .fld 0, [.t 1], some (9, false), 0, 4⟩, ⟨some 11, .load false 1, [.t 10], some (9, false), 0, 5⟩, ⟨some 12, .bin .gtr, [.t 11, .c (ci 32768)], some (9, false), 0, 6⟩, o 13 .pick [.t 9, .c ct, .t 12] 7]) (.cond (.t 13) (.seq (.reg 0 none [m 2 (.c cf) 0]) .ret) .skip)) (.seq (.seq (.reg 0 none [m 3 (.c (ci 0)) 0]) (.blk 0 (.loop 38685626227668133590597642 true c285_2))) c285_s2)))
def c285 : Fn := { fid := 285, np := 1, ntmps := 84, body := (.jn 19342813113834066795298817 c285_1), res := [.tmp 2] }
def d285_1 (c : Cx) (t0 : V) (H : List Blk) : X := stepK c.pc c.ic c.n (.jn 19342813113834066795298817 c285_1) (cn 0 84 [(0, t0)]) H (kTop c285.res)
def k285_1 (c : Cx) : KT := thenK (stepK c.pc c.ic c.n c285_s2) (kTop c285.res)
def k285_2 (c : Cx) : KT := blkK 0 (k285_1 c)
def d285_2 (c : Cx) (m n2 : Nat) (t1 t3 : V) (H : List Blk) : X := jnK (loopsK (stepK c.pc c.ic c.n c285_2) 38685626227668133590597642 true n2 m) (cn 0 84 [(1, t1), (3, t3)]) H (k285_2 c) 38685626227668133590597642
def k285_3 (c : Cx) (m2 n2 : Nat) : KT := thenK (fun ts H k => jnK (loopsK (stepK c.pc c.ic c.n c285_2) 38685626227668133590597642 true n2 m2) (maskT 38685626227668133590597642 0 ts) H k 38685626227668133590597642) (k285_2 c)
def k285_4 (c : Cx) (m2 n2 : Nat) : KT := thenK (stepK c.pc c.ic c.n c285_s1) (k285_3 c m2 n2)
def k285_5 (c : Cx) (m2 n2 : Nat) : KT := blkK 1 (k285_4 c m2 n2)
def k285_6 (c : Cx) (m2 n2 : Nat) : KT := blkK 2 (k285_5 c m2 n2)
def d285_3 (c : Cx) (m2 n2 : Nat) (m n3 : Nat) (t1 t3 t4 t5 : V) (H : List Blk) : X := jnK (loopsK (stepK c.pc c.ic c.n c285_3) 58028439341502200385896506 false n3 m) (cn 0 84 [(1, t1), (3, t3), (4, t4), (5, t5)]) H (k285_6 c m2 n2) 58028439341502200385896506
def b285_3 (c : Cx) (r2 : F2) (r3 : F4) (n3 : Nat) (t1 t3 t4 t5 : V) (H : List Blk) : X := p (aBin .lss t5 (ci 16)) fun x1 => condK x1 ((fun (t1 t3 t4 t5 : V) (H : L) (r3 : F4) => p (aFld 0 t4) fun x2 => (aLoad false 1 x2).go H fun x3 H => (fun (t1 t3 t4 t5 x3 : V) (H : L) (r3 : F4) => p (aBin .mul x3 (ci 16)) fun x4 => p (aBin .add x4 t5) fun x5 => p (aFld 0 t1) fun x6 => (aLoad false 1 x6).go H fun x7 H => (fun (t1 t3 t4 t5 x5 x7 : V) (H : L) (r3 : F4) => p (aBin .geq x5 x7) fun x8 => guardK x8 true (fun k => (aFld 1 t4).go H k) H fun x9 H => guardK x8 true (fun k => (aLoad false 1 x9).go H k) H fun x10 H => guardK x8 true (fun k => (aMov t5).go H k) H fun x11 H => (fun (t1 t3 t4 t5 x8 x10 x11 : V) (H : L) (r3 : F4) => guardK x8 true (fun k => (aIx 1 x10 x11).go H k) H fun x12 H => guardK x8 true (fun k => (aLoad false 1 x12).go H k) H fun x13 H => guardK x8 true (fun k => (aBin .neq x13 (.d (.int .u8 0))).go H k) H fun x14 H => p (aPick x8 x14 cf) fun x15 => condK x15 (some (cf, H)) (p (aBin .add t5 (ci 1)) fun x16 => r3 t1 t3 t4 x16 H)) t1 t3 t4 t5 x8 x10 x11 H r3) t1 t3 t4 t5 x5 x7 H r3) t1 t3 t4 t5 x3 H r3) t1 t3 t4 t5 H r3) (p (aBin .add t3 (ci 1)) fun x17 => r2 t1 x17 H)
def j285_3 (c : Cx) (r2 : F2) : Nat → Nat → F4 := recN (fun _ _ _ _ _ _ => none) fun ih n3 => b285_3 c r2 (ih n3) n3
theorem o285_3 (c : Cx) (m2 n2 : Nat) : d285_3 c m2 n2 = j285_3 c (d285_2 c m2 n2) := by
  unfold j285_3
  refine recN_ok (by kernel_rfl) fun m => funext fun n3 => ?_
  funext t1 t3 t4 t5 H
  refine Eq.trans (jnK_eq 58028439341502200385896506 _ _ H _) ?_
  kernel_rfl
def b285_2 (c : Cx) (j3 : Nat → Nat → F4) (n2 : Nat) (t1 t3 : V) (H : List Blk) : X := bnd (trimF true n2 [t1, t3] H) fun H => p (aFld 1 t1) fun x1 => (aLoad false 1 x1).go H fun x2 H => (aLen 1 x2).go H fun x3 H => p (aBin .lss t3 x3) fun x4 => condK x4 ((fun (t1 t3 : V) (H : L) (c : Cx) (j3 : Nat → Nat → F4) => newK 1 H fun q H => p (aFld 1 t1) fun x5 => (aLoad false 1 x5).go H fun x6 H => (fun (t1 t3 x6 : V) (q : Nat) (H : L) (c : Cx) (j3 : Nat → Nat → F4) => p (aIx 2 x6 t3) fun x7 => (aLoad true 2 x7).go H fun x8 H => (aAlloc (q + 0) [(ci 0), .nilS]).go H fun x9 H => (aStore 2 x9 x8).go H fun _ H => p (aFld 0 x9) fun x10 => (aLoad false 1 x10).go H fun x11 H => (fun (t1 t3 x9 x11 : V) (H : L) (c : Cx) (j3 : Nat → Nat → F4) => p (aBin .lss x11 (ci 0)) fun x12 => guardK x12 false (fun k => (aFld 0 x9).go H k) H fun x13 H => guardK x12 false (fun k => (aLoad false 1 x13).go H k) H fun x14 H => guardK x12 false (fun k => (aBin .geq x14 (ci 32768)).go H k) H fun x15 H => (fun (t1 t3 x9 x12 x15 : V) (H : L) (c : Cx) (j3 : Nat → Nat → F4) => p (aPick x12 ct x15) fun x16 => guardK x16 false (fun k => (aFld 0 x9).go H k) H fun x17 H => guardK x16 false (fun k => (aLoad false 1 x17).go H k) H fun x18 H => guardK x16 false (fun k => (aBin .mul x18 (ci 16)).go H k) H fun x19 H => (fun (t1 t3 x9 x16 x19 : V) (H : L) (c : Cx) (j3 : Nat → Nat → F4) => guardK x16 false (fun k => (aFld 0 t1).go H k) H fun x20 H => guardK x16 false (fun k => (aLoad false 1 x20).go H k) H fun x21 H => guardK x16 false (fun k => (aBin .geq x19 x21).go H k) H fun x22 H => p (aPick x16 ct x22) fun x23 => (fun (t1 t3 x9 x23 : V) (H : L) (c : Cx) (j3 : Nat → Nat → F4) => guardK x23 false (fun k => (aFld 1 x9).go H k) H fun x24 H => guardK x23 false (fun k => (aLoad false 1 x24).go H k) H fun x25 H => guardK x23 false (fun k => (aLen 1 x25).go H k) H fun x26 H => guardK x23 false (fun k => (aBin .neq x26 (ci 16)).go H k) H fun x27 H => (fun (t1 t3 x9 x23 x27 : V) (H : L) (c : Cx) (j3 : Nat → Nat → F4) => p (aPick x23 ct x27) fun x28 => guardK x28 false (fun k => (aMov t3).go H k) H fun x29 H => guardK x28 false (fun k => (aBin .gtr x29 (ci 0)).go H k) H fun x30 H => guardK x28 false (fun k => (aMov x30).go H k) H fun x31 H => (fun (t1 t3 x9 x28 x31 : V) (H : L) (c : Cx) (j3 : Nat → Nat → F4) => guardK x31 true (fun k => (aFld 0 x9).go H k) H fun x32 H => guardK x31 true (fun k => (aLoad false 1 x32).go H k) H fun x33 H => guardK x31 true (fun k => (aFld 1 t1).go H k) H fun x34 H => guardK x31 true (fun k => (aLoad false 1 x34).go H k) H fun x35 H => (fun (t1 t3 x9 x28 x31 x33 x35 : V) (H : L) (c : Cx) (j3 : Nat → Nat → F4) => guardK x31 true (fun k => (aMov t3).go H k) H fun x36 H => guardK x31 true (fun k => (aBin .sub x36 (ci 1)).go H k) H fun x37 H => guardK x31 true (fun k => (aIx 2 x35 x37).go H k) H fun x38 H => guardK x31 true (fun k => (aFld 0 x38).go H k) H fun x39 H => (fun (t1 t3 x9 x28 x31 x33 x39 : V) (H : L) (c : Cx) (j3 : Nat → Nat → F4) => guardK x31 true (fun k => (aLoad false 1 x39).go H k) H fun x40 H => guardK x31 true (fun k => (aBin .leq x33 x40).go H k) H fun x41 H => guardK x28 false (fun k => (aPick x31 x41 cf).go H k) H fun x42 H => p (aPick x28 ct x42) fun x43 => condK x43 (some (cf, H)) (j3 c.n H.length t1 t3 x9 (ci 0) H)) t1 t3 x9 x28 x31 x33 x39 H c j3) t1 t3 x9 x28 x31 x33 x35 H c j3) t1 t3 x9 x28 x31 H c j3) t1 t3 x9 x23 x27 H c j3) t1 t3 x9 x23 H c j3) t1 t3 x9 x16 x19 H c j3) t1 t3 x9 x12 x15 H c j3) t1 t3 x9 x11 H c j3) t1 t3 x6 q H c j3) t1 t3 H c j3) (some (ct, H))
def j285_2 (c : Cx) : Nat → Nat → F2 := recN (fun _ _ _ _ => none) fun ih n2 => b285_2 c (j285_3 c (ih n2)) n2
theorem o285_2 (c : Cx) : d285_2 c = j285_2 c := by
  unfold j285_2
  refine recN_ok (by kernel_rfl) fun m => funext fun n2 => ?_
  simp only [← o285_3]
  funext t1 t3 H
  refine Eq.trans (jnK_eq 38685626227668133590597642 _ _ H _) ?_
  kernel_rfl
def b285_1 (c : Cx) (j2 : Nat → Nat → F2) (t0 : V) (H : List Blk) : X := newK 1 H fun q H => (aBox (q + 0) t0).go H fun x1 H => p (aFld 0 x1) fun x2 => (aLoad false 1 x2).go H fun x3 H => p (aBin .lss x3 (ci 0)) fun x4 => (fun (x1 x4 : V) (H : L) (c : Cx) (j2 : Nat → Nat → F2) => guardK x4 false (fun k => (aFld 0 x1).go H k) H fun x5 H => guardK x4 false (fun k => (aLoad false 1 x5).go H k) H fun x6 H => guardK x4 false (fun k => (aBin .gtr x6 (ci 32768)).go H k) H fun x7 H => p (aPick x4 ct x7) fun x8 => condK x8 (some (cf, H)) (j2 c.n H.length x1 (ci 0) H)) x1 x4 H c j2
def j285_1 (c : Cx) : F1 := b285_1 c (j285_2 c)
theorem o285_1 (c : Cx) : d285_1 c = j285_1 c := by
  unfold j285_1; rw [← o285_2]
  funext t0 H
  refine Eq.trans (stepK_jn c.pc c.ic c.n _ H _ 19342813113834066795298817 c285_1) ?_
  kernel_rfl
def b285_0 (c : Cx) (j1 : F1) (t0 : V) (H : List Blk) : X := j1 t0 H
def s285 (c : Cx) (args : List V) (H : List Blk) : X := argsK 1 args (b285_0 c (j285_1 c) (getT args 0) H)
theorem e285 (pc ic n args H) : runK pc ic n c285 args H = s285 ⟨pc, ic, n⟩ args H := by
  unfold s285; rw [← o285_1]
  kernel_rfl
def L285 : Leaf := ⟨c285, fun pc ic n => s285 ⟨pc, ic, n⟩, e285⟩
theorem kk285 : chkFn Go.Proofs.Tryz.prog ET 285 c285 = true := by kernel_rfl

def c286_2 : C := (.seq (.seq (.reg 0 none [m 4 (.t 3) 0, m 5 (.t 0) 1, o 6 (.len 0) [.t 5] 2, o 7 (.bin .lss) [.t 4, .t 6] 3]) (.cond (.t 7) .skip (.exit 0))) (.seq (.blk 1 (.seq (.reg 0 none [m 10 (.t 0) 0, m 11 (.t 3) 1, o 12 .ixs [.t 10, .t 11] 2, o 13 (.bin .eql) [.t 12, .c (.d (.int .u8 47))] 3, m 14 (.t 13) 4, ⟨some 15, .mov, [.t 0], some (14, false), 0, 5⟩, ⟨some 16, .mov, [.t 3], some (14, false), 0, 6⟩, ⟨some 17, .ixs, [.t 15, .t 16], some (14, false), 0, 7⟩, ⟨some 18, .bin .eql, [.t 17, .c (.d (.int .u8 0))], some (14, false), 0, 8⟩, o 19 .pick [.t 14, .c ct, .t 18] 9]) (.cond (.t 19) (.seq (.reg 0 none [m 2 (.c cf) 0]) .ret) .skip))) (.reg 0 none [m 8 (.t 3) 0, o 9 (.bin .add) [.t 8, .c (ci 1)] 1, m 3 (.t 9) 2])))
def c286_s1 : C := (.seq (.reg 0 none [m 20 (.t 0) 0, o 21 (.len 0) [.t 20] 1, o 22 (.bin .geq) [.t 21, .c (ci 1)] 2, m 23 (.t 22) 3, ⟨some 24, .mov, [.t 0], some (23, true), 0, 4⟩, ⟨some 25, .len 0, [.t 24], some (23, true), 0, 5⟩, ⟨some 26, .bin .leq, [.t 25, .c (ci 24)], some (23, true), 0, 6⟩, o 27 .pick [.t 23, .t 26, .c cf] 7, m 28 (.t 27) 8, ⟨some 29, .mov, [.t 0], some (28, true), 0, 9⟩, ⟨some 30, .bin .neq, [.t 29, .c (.d (.str [46]))], some (28, true), 0, 10⟩, o 31 .pick [.t 28, .t 30, .c cf] 11, m 32 (.t 31) 12, ⟨some 33, .mov, [.t 0], some (32, true), 0, 13⟩, ⟨some 34, .bin .neq, [.t 33, .c (.d (.str [46, 46]))], some (32, true), 0, 14⟩, o 35 .pick [.t 32, .t 34, .c cf] 15, m 2 (.t 35) 16]) .ret)
def c286_1 : C := (.seq (.reg 0 none [m 2 (.c cf) 0]) (.seq (.seq (.reg 0 none [m 3 (.c (ci 0)) 0]) (.blk 0 (.loop 137438953481 false c286_2))) c286_s1))
def c286 : Fn := { fid := 286, np := 1, ntmps := 36, body := (.jn 68719476737 c286_1), res := [.tmp 2] }
def L286 : Leaf := coldL c286
theorem kk286 : chkFn Go.Proofs.Tryz.prog ET 286 c286 = true := by kernel_rfl

def c287_2 : C := (.seq (.seq (.reg 0 none [m 6 (.t 5) 0, m 7 (.t 0) 1, o 8 (.len 1) [.t 7] 2, o 9 (.bin .lss) [.t 6, .t 8] 3]) (.cond (.t 9) .skip (.exit 0))) (.seq (.blk 1 (.seq (.reg 0 none [m 12 (.t 0) 0, m 13 (.t 5) 1, o 14 (.ix 1) [.t 12, .t 13] 2, o 15 (.load false 1) [.t 14] 3, m 16 (.t 1) 4, o 17 (.bin .eql) [.t 15, .t 16] 5]) (.cond (.t 17) (.seq (.reg 0 none [m 4 (.c ct) 0]) .ret) .skip))) (.reg 0 none [m 10 (.t 5) 0, o 11 (.bin .add) [.t 10, .c (ci 1)] 1, m 5 (.t 11) 2])))
def c287_s1 : C := (.seq (.reg 0 none [m 4 (.c cf) 0]) .ret)
def c287_1 : C := (.seq (.reg 0 none [m 4 (.c cf) 0]) (.seq (.seq (.reg 0 none [m 5 (.c (ci 0)) 0]) (.blk 0 (.loop 524323 false c287_2))) c287_s1))
def c287 : Fn := { fid := 287, np := 2, ntmps := 18, body := (.jn 262147 c287_1), res := [.tmp 4] }
def L287 : Leaf := coldL c287
theorem kk287 : chkFn Go.Proofs.Tryz.prog ET 287 c287 = true := by kernel_rfl

def c289 : Fn := { fid := 289, np := 2, ntmps := 13, body := (.seq (.reg 1 none [o 2 (.box 0) [.t 0] 0, m 4 (.c cf) 1]) (.seq (.reg 0 none [o 5 (.load true 2) [.t 2] 0, m 6 (.t 1) 1, o 7 (.call 82) [.t 5, .t 6, .c (ci 1)] 2, m 8 (.t 7) 3, ⟨some 9, .load true 2, [.t 2], some (8, false), 0, 4⟩, ⟨some 10, .mov, [.t 1], some (8, false), 0, 5⟩, ⟨some 11, .call 82, [.t 9, .t 10, .c (ci 3)], some (8, false), 0, 6⟩, o 12 .pick [.t 8, .c ct, .t 11] 7, m 4 (.t 12) 8]) .ret)), res := [.tmp 4] }
def L289 : Leaf := coldL c289
theorem kk289 : chkFn Go.Proofs.Tryz.prog ET 289 c289 = true := by kernel_rfl

def c297 : Fn := { fid := 297, np := 1, ntmps := 6, body := (.seq (.reg 0 none [m 2 (.c cf) 0]) (.seq (.reg 0 none [m 3 (.t 0) 0, m 4 (.t 0) 1, o 5 (.bin .neq) [.t 3, .t 4] 2, m 2 (.t 5) 3]) .ret)), res := [.tmp 2] }
def b297_0 (c : Cx) (t0 : V) (H : List Blk) : X := p (aBin .neq t0 t0) fun x1 => some (x1, H)
def s297 (c : Cx) (args : List V) (H : List Blk) : X := argsK 1 args (b297_0 c (getT args 0) H)
theorem e297 (pc ic n args H) : runK pc ic n c297 args H = s297 ⟨pc, ic, n⟩ args H := by
  unfold s297
  kernel_rfl
def L297 : Leaf := ⟨c297, fun pc ic n => s297 ⟨pc, ic, n⟩, e297⟩
theorem kk297 : chkFn Go.Proofs.Tryz.prog ET 297 c297 = true := by kernel_rfl

def c304_3 : C := (.seq (.seq (.reg 0 (some ⟨true, [], 49⟩) [m 16 (.t 7) 0, m 17 (.t 1) 1, ⟨some 18, .bin .gtr, [.t 16, .t 17], none, 3, 2⟩, ⟨some 19, .mov, [.t 18], none, 7, 3⟩, ⟨some 20, .mov, [.t 0], some (19, true), 15, 4⟩, ⟨some 21, .mov, [.t 7], some (19, true), 15, 5⟩, ⟨some 22, .ix 1, [.t 20, .t 21], some (19, true), 63, 6⟩, ⟨some 23, .load false 1, [.t 22], some (19, true), 127, 7⟩, ⟨some 24, .mov, [.t 0], some (19, true), 15, 8⟩, ⟨some 25, .mov, [.t 7], some (19, true), 15, 9⟩, ⟨some 26, .bin .sub, [.t 25, .c (ci 1)], some (19, true), 527, 10⟩, ⟨some 27, .ix 1, [.t 24, .t 26], some (19, true), 1807, 11⟩, ⟨some 28, .load false 1, [.t 27], some (19, true), 3855, 12⟩, ⟨some 29, .call 310, [.t 23, .t 28], some (19, true), 8191, 13⟩, ⟨some 30, .pick, [.t 19, .t 29, .c cf], none, 16383, 14⟩]) (.cond (.t 30) .skip (.exit 2))) (.seq (.blk 3 (.reg 0 (some ⟨true, [0, 1, 5, 6, 7, 8, 9, 10, 11, 12, 13, 14, 15, 2, 3, 4, 16, 17], 49⟩) [m 33 (.t 0) 0, m 34 (.t 7) 1, m 35 (.t 0) 2, m 36 (.t 7) 3, ⟨some 37, .bin .sub, [.t 36, .c (ci 1)], none, 8, 4⟩, m 38 (.t 0) 5, m 39 (.t 7) 6, ⟨some 40, .bin .sub, [.t 39, .c (ci 1)], none, 64, 7⟩, ⟨some 41, .ix 1, [.t 38, .t 40], none, 224, 8⟩, ⟨some 42, .load false 1, [.t 41], none, 480, 9⟩, m 43 (.t 0) 10, m 44 (.t 7) 11, ⟨some 45, .ix 1, [.t 43, .t 44], none, 3072, 12⟩, ⟨some 46, .load false 1, [.t 45], none, 7168, 13⟩, ⟨some 47, .ix 1, [.t 33, .t 34], none, 16355, 14⟩, ⟨none, .store 1, [.t 47, .t 42], none, 32739, 15⟩, ⟨some 48, .ix 1, [.t 35, .t 37], none, 65535, 16⟩, ⟨none, .store 1, [.t 48, .t 46], none, 131071, 17⟩])) (.reg 0 none [m 31 (.t 7) 0, o 32 (.bin .sub) [.t 31, .c (ci 1)] 1, m 7 (.t 32) 2])))
def c304_s1 : C := (.reg 0 none [m 13 (.t 6) 0, o 14 (.bin .add) [.t 13, .c (ci 1)] 1, m 6 (.t 14) 2])
def c304_2 : C := (.seq (.seq (.reg 0 none [m 10 (.t 6) 0, m 11 (.t 2) 1, o 12 (.bin .lss) [.t 10, .t 11] 2]) (.cond (.t 12) .skip (.exit 0))) (.seq (.blk 1 (.seq (.reg 0 none [m 15 (.t 6) 0, m 7 (.t 15) 1]) (.blk 2 (.loop 1688849860264135 false c304_3)))) c304_s1))
def c304_1 : C := (.seq (.reg 0 none [m 8 (.t 1) 0, o 9 (.bin .add) [.t 8, .c (ci 1)] 1, m 6 (.t 9) 2]) (.blk 0 (.loop 1125899906842695 false c304_2)))
def c304 : Fn := { fid := 304, np := 3, ntmps := 49, body := (.jn 562949953421319 c304_1), res := [] }
def L304 : Leaf := coldL c304
theorem kk304 : chkFn Go.Proofs.Tryz.prog ET 304 c304 = true := by kernel_rfl

def c310 : Fn := { fid := 310, np := 2, ntmps := 17, body := (.seq (.reg 0 none [m 4 (.c cf) 0]) (.seq (.reg 0 none [m 5 (.t 0) 0, o 6 (.call 297) [.t 5] 1, m 7 (.t 6) 2, ⟨some 8, .mov, [.t 1], some (7, true), 0, 3⟩, ⟨some 9, .call 297, [.t 8], some (7, true), 0, 4⟩, ⟨some 10, .un .not, [.t 9], some (7, true), 0, 5⟩, o 11 .pick [.t 7, .t 10, .c cf] 6, m 12 (.t 11) 7, ⟨some 13, .mov, [.t 0], some (12, false), 0, 8⟩, ⟨some 14, .mov, [.t 1], some (12, false), 0, 9⟩, ⟨some 15, .bin .lss, [.t 13, .t 14], some (12, false), 0, 10⟩, o 16 .pick [.t 12, .c ct, .t 15] 11, m 4 (.t 16) 12]) .ret)), res := [.tmp 4] }
def L310 : Leaf := coldL c310
theorem kk310 : chkFn Go.Proofs.Tryz.prog ET 310 c310 = true := by kernel_rfl

def c314_3 : C := (.seq (.reg 0 none [m 19 (.t 2) 0, m 20 (.t 0) 1, o 21 (.toInt .u8) [.t 20] 2, o 22 .ixs [.c (.d (.str [0, 1, 2, 2, 3, 3, 3, 3, 4, 4, 4, 4, 4, 4, 4, 4, 5, 5, 5, 5, 5, 5, 5, 5, 5, 5, 5, 5, 5, 5, 5, 5, 6, 6, 6, 6, 6, 6, 6, 6, 6, 6, 6, 6, 6, 6, 6, 6, 6, 6, 6, 6, 6, 6, 6, 6, 6, 6, 6, 6, 6, 6, 6, 6, 7, 7, 7, 7, 7, 7, 7, 7, 7, 7, 7, 7, 7, 7, 7, 7, 7, 7, 7, 7, 7, 7, 7, 7, 7, 7, 7, 7, 7, 7, 7, 7, 7, 7, 7, 7, 7, 7, 7, 7, 7, 7, 7, 7, 7, 7, 7, 7, 7, 7, 7, 7, 7, 7, 7, 7, 7, 7, 7, 7, 7, 7, 7, 7, 8, 8, 8, 8, 8, 8, 8, 8, 8, 8, 8, 8, 8, 8, 8, 8, 8, 8, 8, 8, 8, 8, 8, 8, 8, 8, 8, 8, 8, 8, 8, 8, 8, 8, 8, 8, 8, 8, 8, 8, 8, 8, 8, 8, 8, 8, 8, 8, 8, 8, 8, 8, 8, 8, 8, 8, 8, 8, 8, 8, 8, 8, 8, 8, 8, 8, 8, 8, 8, 8, 8, 8, 8, 8, 8, 8, 8, 8, 8, 8, 8, 8, 8, 8, 8, 8, 8, 8, 8, 8, 8, 8, 8, 8, 8, 8, 8, 8, 8, 8, 8, 8, 8, 8, 8, 8, 8, 8, 8, 8, 8, 8, 8, 8, 8, 8, 8, 8, 8, 8, 8, 8, 8, 8, 8, 8, 8, 8])), .t 21] 3, o 23 (.toInt .i64) [.t 22] 4, o 24 (.bin .add) [.t 19, .t 23] 5, m 2 (.t 24) 6]) .ret)
def c314_2 : C := (.seq (.seq (.reg 0 none [m 13 (.t 0) 0, o 14 (.bin .geq) [.t 13, .c (.d (.int .u64 256))] 1]) (.cond (.t 14) (.seq (.reg 0 none [m 15 (.t 0) 0, o 16 (.bin .shr) [.t 15, .c (.d (.int .u64 8))] 1, m 0 (.t 16) 2]) (.reg 0 none [m 17 (.t 2) 0, o 18 (.bin .add) [.t 17, .c (ci 8)] 1, m 2 (.t 18) 2])) .skip)) (.jn 100663301 c314_3))
def c314_1 : C := (.seq (.seq (.reg 0 none [m 7 (.t 0) 0, o 8 (.bin .geq) [.t 7, .c (.d (.int .u64 65536))] 1]) (.cond (.t 8) (.seq (.reg 0 none [m 9 (.t 0) 0, o 10 (.bin .shr) [.t 9, .c (.d (.int .u64 16))] 1, m 0 (.t 10) 2]) (.reg 0 none [m 11 (.t 2) 0, o 12 (.bin .add) [.t 11, .c (ci 16)] 1, m 2 (.t 12) 2])) .skip)) (.jn 67108869 c314_2))
def c314 : Fn := { fid := 314, np := 1, ntmps := 25, body := (.seq (.reg 0 none [m 2 (.c (ci 0)) 0]) (.seq (.seq (.reg 0 none [m 3 (.t 0) 0, o 4 (.bin .geq) [.t 3, .c (.d (.int .u64 4294967296))] 1]) (.cond (.t 4) (.seq (.reg 0 none [m 5 (.t 0) 0, o 6 (.bin .shr) [.t 5, .c (.d (.int .u64 32))] 1, m 0 (.t 6) 2]) (.reg 0 none [m 2 (.c (ci 32)) 0])) .skip)) (.jn 33554437 c314_1))), res := [.tmp 2] }
def L314 : Leaf := coldL c314
theorem kk314 : chkFn Go.Proofs.Tryz.prog ET 314 c314 = true := by kernel_rfl

def l102A_0 : List O := [o 15 (.fld 1) [.t 3] 0, ⟨some 16, .load false 1, [.t 15], none, 1, 1⟩, o 17 (.fld 1) [.t 1] 2, ⟨some 18, .load false 1, [.t 17], none, 4, 3⟩, m 19 (.t 4) 4, ⟨some 20, .ix 2, [.t 18, .t 19], none, 28, 5⟩, ⟨some 21, .fld 0, [.t 20], none, 60, 6⟩, ⟨some 22, .load false 1, [.t 21], none, 124, 7⟩, o 23 (.bsa 0 1 [(.d (.int .u8 0))] 0 []) [] 8, o 24 (.fld 1) [.t 1] 9, ⟨some 25, .load false 1, [.t 24], none, 512, 10⟩, m 26 (.t 4) 11, ⟨some 27, .ix 2, [.t 25, .t 26], none, 3584, 12⟩, ⟨some 28, .fld 1, [.t 27], none, 7680, 13⟩, ⟨some 29, .load false 1, [.t 28], none, 15872, 14⟩, ⟨some 30, .appA 1 1 1, [.t 23, .t 29], none, 32512, 15⟩, ⟨some 31, .build [(ci 0), .nilS] [(0, 1), (1, 1)], [.t 22, .t 30], none, 65532, 16⟩, ⟨some 32, .bsa 2 2 [(ci 0), .nilS] 1 [0], [.t 31], none, 131068, 17⟩, ⟨some 33, .appA 3 2 32, [.t 16, .t 32], none, 262143, 18⟩, ⟨some 34, .fld 1, [.t 3], none, 524287, 19⟩, ⟨none, .store 1, [.t 34, .t 33], none, 1048575, 20⟩]
def c102A_2 : C := (.seq (.seq (.reg 0 none [m 8 (.t 4) 0, o 9 (.fld 1) [.t 1] 1, o 10 (.load false 1) [.t 9] 2, o 11 (.len 1) [.t 10] 3, o 12 (.bin .lss) [.t 8, .t 11] 4]) (.cond (.t 12) .skip (.exit 0))) (.seq (.blk 1 (.reg 4 (some ⟨false, [], 36⟩) l102A_0)) (.reg 0 none [m 13 (.t 4) 0, o 14 (.bin .add) [.t 13, .c (ci 1)] 1, m 4 (.t 14) 2])))
def c102A_s1 : C := (.seq (.reg 0 none [o 35 (.load true 2) [.t 3] 0, ⟨none, .store 2, [.t 2, .t 35], none, 0, 1⟩]) .ret)
def c102A_1 : C := (.seq (.reg 2 none [o 1 (.box 0) [.t 0] 0, o 2 (.alloc 1 [(ci 0), .nilS]) [] 1]) (.seq (.reg 1 none [o 5 (.fld 0) [.t 1] 0, o 6 (.load false 1) [.t 5] 1, o 7 (.build [(ci 0), .nilS] [(0, 1)]) [.t 6] 2, o 3 (.alloc 0 [(ci 0), .nilS]) [] 3, ⟨none, .store 2, [.t 3, .t 7], none, 0, 4⟩]) (.seq (.seq (.reg 0 none [m 4 (.c (ci 0)) 0]) (.blk 0 (.loop 137438953502 false c102A_2))) c102A_s1)))
def c102A : Fn := { fid := 102, np := 1, ntmps := 36, body := (.jn 68719476737 c102A_1), res := [.cell 2 true 2] }
def d102A_1 (c : Cx) (t0 : V) (H : List Blk) : X := stepK c.pc c.ic c.n (.jn 68719476737 c102A_1) (cn 0 36 [(0, t0)]) H (kTop c102A.res)
def k102A_1 (c : Cx) : KT := thenK (stepK c.pc c.ic c.n c102A_s1) (kTop c102A.res)
def k102A_2 (c : Cx) : KT := blkK 0 (k102A_1 c)
def d102A_2 (c : Cx) (m n2 : Nat) (t1 t2 t3 t4 : V) (H : List Blk) : X := jnK (loopsK (stepK c.pc c.ic c.n c102A_2) 137438953502 false n2 m) (cn 0 36 [(1, t1), (2, t2), (3, t3), (4, t4)]) H (k102A_2 c) 137438953502
def b102A_2 (c : Cx) (r2 : F4) (n2 : Nat) (t1 t2 t3 t4 : V) (H : List Blk) : X := p (aFld 1 t1) fun x1 => (aLoad false 1 x1).go H fun x2 H => (aLen 1 x2).go H fun x3 H => p (aBin .lss t4 x3) fun x4 => condK x4 ((fun (t1 t2 t3 t4 x1 x2 x3 x4 : V) (H : L) (c : Cx) (r2 : F4) => newK 4 H fun q H => drawnK c.pc c.ic l102A_0 q (cn 0 36 [(1, t1), (2, t2), (3, t3), (4, t4), (8, t4), (9, x1), (10, x2), (11, x3), (12, x4)]) H fun ts4 H => p (aBin .add (getT ts4 4) (ci 1)) fun x6 => r2 (getT ts4 1) (getT ts4 2) (getT ts4 3) x6 H) t1 t2 t3 t4 x1 x2 x3 x4 H c r2) ((aLoad true 2 t3).go H fun x7 H => (aStore 2 t2 x7).go H fun _ H => bnd (loadV true 2 t2 H) fun x8 => some (x8, H))
def j102A_2 (c : Cx) : Nat → Nat → F4 := recN (fun _ _ _ _ _ _ => none) fun ih n2 => b102A_2 c (ih n2) n2
theorem o102A_2 (c : Cx) : d102A_2 c = j102A_2 c := by
  unfold j102A_2
  refine recN_ok (by kernel_rfl) fun m => funext fun n2 => ?_
  funext t1 t2 t3 t4 H
  refine Eq.trans (jnK_eq 137438953502 _ _ H _) ?_
  kernel_rfl
def b102A_1 (c : Cx) (j2 : Nat → Nat → F4) (t0 : V) (H : List Blk) : X := newK 2 H fun q H => (aBox (q + 0) t0).go H fun x1 H => (aAlloc (q + 1) [(ci 0), .nilS]).go H fun x2 H => newK 1 H fun q H => p (aFld 0 x1) fun x3 => (fun (x1 x2 x3 : V) (q : Nat) (H : L) (c : Cx) (j2 : Nat → Nat → F4) => (aLoad false 1 x3).go H fun x4 H => p (aBuild [(ci 0), .nilS] [(0, 1)] [x4]) fun x5 => (aAlloc (q + 0) [(ci 0), .nilS]).go H fun x6 H => (aStore 2 x6 x5).go H fun _ H => j2 c.n H.length x1 x2 x6 (ci 0) H) x1 x2 x3 q H c j2
def j102A_1 (c : Cx) : F1 := b102A_1 c (j102A_2 c)
theorem o102A_1 (c : Cx) : d102A_1 c = j102A_1 c := by
  unfold j102A_1; rw [← o102A_2]
  funext t0 H
  refine Eq.trans (stepK_jn c.pc c.ic c.n _ H _ 68719476737 c102A_1) ?_
  kernel_rfl
def b102A_0 (c : Cx) (j1 : F1) (t0 : V) (H : List Blk) : X := j1 t0 H
def s102A (c : Cx) (args : List V) (H : List Blk) : X := argsK 1 args (b102A_0 c (j102A_1 c) (getT args 0) H)
theorem e102A (pc ic n args H) : runK pc ic n c102A args H = s102A ⟨pc, ic, n⟩ args H := by
  unfold s102A; rw [← o102A_1]
  kernel_rfl
def L102A : Leaf := ⟨c102A, fun pc ic n => s102A ⟨pc, ic, n⟩, e102A⟩
theorem kk102A : chkFn Go.Proofs.Tryz.prog ET 10102 c102A = true := by kernel_rfl

def c172A : Fn := { fid := 172, np := 2, ntmps := 12, body := (.seq (.reg 1 none [o 2 (.box 0) [.t 0] 0, m 4 (.c (ci 0)) 1, m 5 (.c cf) 2]) (.seq (.reg 0 none [o 6 (.fld 7) [.t 2] 0, o 7 (.load false 1) [.t 6] 1, m 8 (.t 1) 2, o 9 (.icall 10261) [.t 7, .t 8, .c (.fn 262 [])] 3, o 10 (.ext 0) [.t 9] 4, o 11 (.ext 1) [.t 9] 5, m 4 (.t 10) 6, m 5 (.t 11) 7]) .ret)), res := [.tmp 4, .tmp 5] }
def L172A : Leaf := coldL c172A
theorem kk172A : chkFn Go.Proofs.Tryz.prog ET 10172 c172A = true := by kernel_rfl

def c188A_2 : C := (.seq (.reg 0 none [o 9 (.bin .lss) [.t 8, .t 7] 0]) (.seq (.cond (.t 9) .skip (.exit 0)) (.seq (.blk 1 (.seq (.reg 0 none [m 10 (.t 8) 0, m 5 (.t 10) 1]) (.seq (.reg 0 none [m 11 (.t 1) 0, m 12 (.t 0) 1, m 13 (.t 5) 2, o 14 (.ix 3) [.t 12, .t 13] 3, o 15 (.load true 3) [.t 14] 4, o 16 .dcall [.t 11, .t 15] 5]) (.cond (.t 16) (.seq (.reg 0 none [m 17 (.t 5) 0, m 4 (.t 17) 1]) .ret) .skip)))) (.reg 0 none [o 18 (.bin .add) [.t 8, .c (ci 1)] 0, m 8 (.t 18) 1]))))
def c188A_s1 : C := (.seq (.reg 0 none [m 4 (.c (ci (-1))) 0]) .ret)
def c188A_1 : C := (.seq (.reg 0 none [m 4 (.c (ci 0)) 0]) (.seq (.seq (.reg 0 none [m 6 (.t 0) 0, o 7 (.len 1) [.t 6] 1, m 8 (.c (ci 0)) 2]) (.blk 0 (.loop 1048963 true c188A_2))) c188A_s1))
def c188A : Fn := { fid := 188, np := 2, ntmps := 19, body := (.jn 524291 c188A_1), res := [.tmp 4] }
def L188A : Leaf := coldL c188A
theorem kk188A : chkFn Go.Proofs.Tryz.prog ET 10188 c188A = true := by kernel_rfl

def c261A_2 : C := (.seq (.seq (.reg 0 none [m 15 (.t 9) 0, m 16 (.t 10) 1, o 17 (.bin .lss) [.t 15, .t 16] 2]) (.cond (.t 17) .skip (.exit 0))) (.blk 1 (.seq (.reg 0 none [m 18 (.t 9) 0, m 19 (.t 10) 1, o 20 (.bin .add) [.t 18, .t 19] 2, o 21 (.toInt .u64) [.t 20] 3, o 22 (.bin .shr) [.t 21, .c (.d (.int .u64 1))] 4, o 23 (.toInt .i64) [.t 22] 5, m 11 (.t 23) 6]) (.seq (.reg 0 none [m 24 (.t 2) 0, m 25 (.t 0) 1, m 26 (.t 11) 2, o 27 (.ix 2) [.t 25, .t 26] 3, o 28 (.load true 2) [.t 27] 4, m 29 (.t 1) 5, o 30 .dcall [.t 24, .t 28, .t 29] 6, o 31 (.bin .lss) [.t 30, .c (ci 0)] 7]) (.cond (.t 31) (.reg 0 none [m 32 (.t 11) 0, o 33 (.bin .add) [.t 32, .c (ci 1)] 1, m 9 (.t 33) 2]) (.reg 0 none [m 34 (.t 11) 0, m 10 (.t 34) 1]))))))
def c261A_s1 : C := (.seq (.reg 0 none [m 35 (.t 9) 0, m 36 (.t 9) 1, m 37 (.t 8) 2, o 38 (.bin .lss) [.t 36, .t 37] 3, m 39 (.t 38) 4, ⟨some 40, .mov, [.t 2], some (39, true), 0, 5⟩, ⟨some 41, .mov, [.t 0], some (39, true), 0, 6⟩, ⟨some 42, .mov, [.t 9], some (39, true), 0, 7⟩, ⟨some 43, .ix 2, [.t 41, .t 42], some (39, true), 0, 8⟩, ⟨some 44, .load true 2, [.t 43], some (39, true), 0, 9⟩, ⟨some 45, .mov, [.t 1], some (39, true), 0, 10⟩, ⟨some 46, .dcall, [.t 40, .t 44, .t 45], some (39, true), 0, 11⟩, ⟨some 47, .bin .eql, [.t 46, .c (ci 0)], some (39, true), 0, 12⟩, o 48 .pick [.t 39, .t 47, .c cf] 13, m 6 (.t 35) 14, m 7 (.t 48) 15]) .ret)
def c261A_1 : C := (.seq (.reg 0 none [m 6 (.c (ci 0)) 0, m 7 (.c cf) 1]) (.seq (.reg 0 none [m 12 (.t 0) 0, o 13 (.len 1) [.t 12] 1, m 8 (.t 13) 2]) (.seq (.reg 0 none [m 14 (.t 8) 0, m 9 (.c (ci 0)) 1, m 10 (.t 14) 2]) (.seq (.blk 0 (.loop 1125899906844423 true c261A_2)) c261A_s1))))
def c261A : Fn := { fid := 261, np := 3, ntmps := 49, body := (.jn 562949953421319 c261A_1), res := [.tmp 6, .tmp 7] }
def L261A : Leaf := coldL c261A
theorem kk261A : chkFn Go.Proofs.Tryz.prog ET 10261 c261A = true := by kernel_rfl

def c276A_2 : C := (.seq (.reg 0 none [o 9 (.bin .lss) [.t 8, .t 7] 0]) (.seq (.cond (.t 9) .skip (.exit 0)) (.seq (.blk 1 (.seq (.reg 0 none [m 10 (.t 8) 0, m 5 (.t 10) 1]) (.seq (.reg 0 none [m 11 (.t 1) 0, m 12 (.t 0) 1, m 13 (.t 5) 2, o 14 (.ix 1) [.t 12, .t 13] 3, o 15 (.load false 1) [.t 14] 4, o 16 .dcall [.t 11, .t 15] 5]) (.cond (.t 16) (.seq (.reg 0 none [m 17 (.t 5) 0, m 4 (.t 17) 1]) .ret) .skip)))) (.reg 0 none [o 18 (.bin .add) [.t 8, .c (ci 1)] 0, m 8 (.t 18) 1]))))
def c276A_s1 : C := (.seq (.reg 0 none [m 4 (.c (ci (-1))) 0]) .ret)
def c276A_1 : C := (.seq (.reg 0 none [m 4 (.c (ci 0)) 0]) (.seq (.seq (.reg 0 none [m 6 (.t 0) 0, o 7 (.len 1) [.t 6] 1, m 8 (.c (ci 0)) 2]) (.blk 0 (.loop 1048963 true c276A_2))) c276A_s1))
def c276A : Fn := { fid := 276, np := 2, ntmps := 19, body := (.jn 524291 c276A_1), res := [.tmp 4] }
def L276A : Leaf := coldL c276A
theorem kk276A : chkFn Go.Proofs.Tryz.prog ET 10276 c276A = true := by kernel_rfl

def c283A_2 : C := (.seq (.seq (.reg 0 none [m 6 (.t 5) 0, o 7 (.fld 1) [.t 2] 1, o 8 (.load false 1) [.t 7] 2, o 9 (.len 1) [.t 8] 3, o 10 (.bin .lss) [.t 6, .t 9] 4]) (.cond (.t 10) .skip (.exit 0))) (.seq (.blk 1 (.seq (.reg 0 none [o 13 (.fld 1) [.t 2] 0, o 14 (.load false 1) [.t 13] 1, m 15 (.t 5) 2, o 16 (.ix 2) [.t 14, .t 15] 3, o 17 (.fld 0) [.t 16] 4, o 18 (.load false 1) [.t 17] 5, m 19 (.t 1) 6, o 20 (.bin .eql) [.t 18, .t 19] 7]) (.cond (.t 20) (.seq (.reg 0 none [m 21 (.t 5) 0, m 4 (.t 21) 1]) .ret) .skip))) (.reg 0 none [m 11 (.t 5) 0, o 12 (.bin .add) [.t 11, .c (ci 1)] 1, m 5 (.t 12) 2])))
def c283A_s1 : C := (.seq (.reg 0 none [m 4 (.c (ci (-1))) 0]) .ret)
def c283A_1 : C := (.seq (.reg 1 none [o 2 (.box 0) [.t 0] 0, m 4 (.c (ci 0)) 1]) (.seq (.seq (.reg 0 none [m 5 (.c (ci 0)) 0]) (.blk 0 (.loop 8388646 false c283A_2))) c283A_s1))
def c283A : Fn := { fid := 283, np := 2, ntmps := 22, body := (.jn 4194307 c283A_1), res := [.tmp 4] }
def d283A_1 (c : Cx) (t0 t1 : V) (H : List Blk) : X := stepK c.pc c.ic c.n (.jn 4194307 c283A_1) (cn 0 22 [(0, t0), (1, t1)]) H (kTop c283A.res)
def k283A_1 (c : Cx) : KT := thenK (stepK c.pc c.ic c.n c283A_s1) (kTop c283A.res)
def k283A_2 (c : Cx) : KT := blkK 0 (k283A_1 c)
def d283A_2 (c : Cx) (m n2 : Nat) (t1 t2 t5 : V) (H : List Blk) : X := jnK (loopsK (stepK c.pc c.ic c.n c283A_2) 8388646 false n2 m) (cn 0 22 [(1, t1), (2, t2), (5, t5)]) H (k283A_2 c) 8388646
def b283A_2 (c : Cx) (r2 : F3) (n2 : Nat) (t1 t2 t5 : V) (H : List Blk) : X := p (aFld 1 t2) fun x1 => (aLoad false 1 x1).go H fun x2 H => (aLen 1 x2).go H fun x3 H => p (aBin .lss t5 x3) fun x4 => condK x4 ((fun (t1 t2 t5 : V) (H : L) (r2 : F3) => p (aFld 1 t2) fun x5 => (aLoad false 1 x5).go H fun x6 H => (fun (t1 t2 t5 x6 : V) (H : L) (r2 : F3) => p (aIx 2 x6 t5) fun x7 => p (aFld 0 x7) fun x8 => (aLoad false 1 x8).go H fun x9 H => p (aBin .eql x9 t1) fun x10 => condK x10 (some (t5, H)) (p (aBin .add t5 (ci 1)) fun x11 => r2 t1 t2 x11 H)) t1 t2 t5 x6 H r2) t1 t2 t5 H r2) (some ((ci (-1)), H))
def j283A_2 (c : Cx) : Nat → Nat → F3 := recN (fun _ _ _ _ _ => none) fun ih n2 => b283A_2 c (ih n2) n2
theorem o283A_2 (c : Cx) : d283A_2 c = j283A_2 c := by
  unfold j283A_2
  refine recN_ok (by kernel_rfl) fun m => funext fun n2 => ?_
  funext t1 t2 t5 H
  refine Eq.trans (jnK_eq 8388646 _ _ H _) ?_
  kernel_rfl
def b283A_1 (c : Cx) (j2 : Nat → Nat → F3) (t0 t1 : V) (H : List Blk) : X := newK 1 H fun q H => (aBox (q + 0) t0).go H fun x1 H => j2 c.n H.length t1 x1 (ci 0) H
def j283A_1 (c : Cx) : F2 := b283A_1 c (j283A_2 c)
theorem o283A_1 (c : Cx) : d283A_1 c = j283A_1 c := by
  unfold j283A_1; rw [← o283A_2]
  funext t0 t1 H
  refine Eq.trans (stepK_jn c.pc c.ic c.n _ H _ 4194307 c283A_1) ?_
  kernel_rfl
def b283A_0 (c : Cx) (j1 : F2) (t0 t1 : V) (H : List Blk) : X := j1 t0 t1 H
def s283A (c : Cx) (args : List V) (H : List Blk) : X := argsK 2 args (b283A_0 c (j283A_1 c) (getT args 0) (getT args 1) H)
theorem e283A (pc ic n args H) : runK pc ic n c283A args H = s283A ⟨pc, ic, n⟩ args H := by
  unfold s283A; rw [← o283A_1]
  kernel_rfl
def L283A : Leaf := ⟨c283A, fun pc ic n => s283A ⟨pc, ic, n⟩, e283A⟩
theorem kk283A : chkFn Go.Proofs.Tryz.prog ET 10283 c283A = true := by kernel_rfl

def c284A_2 : C := (.seq (.seq (.reg 0 none [m 12 (.t 5) 0, o 13 (.fld 1) [.t 2] 1, o 14 (.load false 1) [.t 13] 2, o 15 (.len 1) [.t 14] 3, o 16 (.bin .lss) [.t 12, .t 15] 4, m 17 (.t 16) 5, ⟨some 18, .fld 1, [.t 2], some (17, true), 0, 6⟩, ⟨some 19, .load false 1, [.t 18], some (17, true), 0, 7⟩, ⟨some 20, .mov, [.t 5], some (17, true), 0, 8⟩, ⟨some 21, .ix 2, [.t 19, .t 20], some (17, true), 0, 9⟩, ⟨some 22, .fld 0, [.t 21], some (17, true), 0, 10⟩, ⟨some 23, .load false 1, [.t 22], some (17, true), 0, 11⟩, ⟨some 24, .mov, [.t 1], some (17, true), 0, 12⟩, ⟨some 25, .bin .lss, [.t 23, .t 24], some (17, true), 0, 13⟩, o 26 .pick [.t 17, .t 25, .c cf] 14]) (.cond (.t 26) .skip (.exit 0))) (.blk 1 (.reg 0 none [m 27 (.t 5) 0, o 28 (.bin .add) [.t 27, .c (ci 1)] 1, m 5 (.t 28) 2])))
def c284A_s1 : C := (.seq (.reg 2 none [o 29 (.bsa 0 2 [(ci 0), .nilS] 0 []) [] 0, o 30 (.fld 1) [.t 2] 1, o 31 (.load false 1) [.t 30] 2, m 32 (.t 5) 3, o 33 (.sub 2 false true false) [.t 31, .t 32] 4, o 34 (.appA 1 2 32) [.t 29, .t 33] 5, m 6 (.t 34) 6]) (.seq (.reg 3 none [m 35 (.t 6) 0, m 36 (.t 1) 1, o 37 (.mksl 0 1 [(.d (.int .u8 0))] 1) [.c (ci 16), .c (ci 16)] 2, o 38 (.build [(ci 0), .nilS] [(0, 1), (1, 1)]) [.t 36, .t 37] 3, o 39 (.bsa 1 2 [(ci 0), .nilS] 1 [0]) [.t 38] 4, o 40 (.appA 2 2 32) [.t 35, .t 39] 5, m 6 (.t 40) 6]) (.seq (.reg 1 none [m 41 (.t 6) 0, o 42 (.fld 1) [.t 2] 1, o 43 (.load false 1) [.t 42] 2, m 44 (.t 5) 3, o 45 (.sub 2 true false false) [.t 43, .t 44] 4, o 46 (.appA 0 2 32) [.t 41, .t 45] 5, o 47 (.fld 1) [.t 2] 6, ⟨none, .store 1, [.t 47, .t 46], none, 0, 7⟩]) (.seq (.reg 0 none [o 48 (.load true 2) [.t 2] 0, ⟨none, .store 2, [.t 4, .t 48], none, 0, 1⟩]) .ret))))
def c284A_1 : C := (.seq (.reg 2 none [o 2 (.box 0) [.t 0] 0, o 4 (.alloc 1 [(ci 0), .nilS]) [] 1]) (.seq (.seq (.reg 0 none [o 7 (.load true 2) [.t 2] 0, m 8 (.t 1) 1, o 9 (.icall 10283) [.t 7, .t 8] 2, o 10 (.bin .geq) [.t 9, .c (ci 0)] 3]) (.cond (.t 10) (.seq (.reg 0 none [o 11 (.load true 2) [.t 2] 0, ⟨none, .store 2, [.t 4, .t 11], none, 0, 1⟩]) .ret) .skip)) (.seq (.reg 0 none [m 5 (.c (ci 0)) 0]) (.seq (.blk 0 (.loop 1125899906842678 false c284A_2)) c284A_s1))))
def c284A : Fn := { fid := 284, np := 2, ntmps := 49, body := (.jn 562949953421315 c284A_1), res := [.cell 4 true 2] }
def d284A_1 (c : Cx) (t0 t1 : V) (H : List Blk) : X := stepK c.pc c.ic c.n (.jn 562949953421315 c284A_1) (cn 0 49 [(0, t0), (1, t1)]) H (kTop c284A.res)
def k284A_1 (c : Cx) : KT := thenK (stepK c.pc c.ic c.n c284A_s1) (kTop c284A.res)
def k284A_2 (c : Cx) : KT := blkK 0 (k284A_1 c)
def d284A_2 (c : Cx) (m n2 : Nat) (t1 t2 t4 t5 : V) (H : List Blk) : X := jnK (loopsK (stepK c.pc c.ic c.n c284A_2) 1125899906842678 false n2 m) (cn 0 49 [(1, t1), (2, t2), (4, t4), (5, t5)]) H (k284A_2 c) 1125899906842678
def b284A_2 (c : Cx) (r2 : F4) (n2 : Nat) (t1 t2 t4 t5 : V) (H : List Blk) : X := p (aFld 1 t2) fun x1 => (fun (t1 t2 t4 t5 x1 : V) (H : L) (r2 : F4) => (aLoad false 1 x1).go H fun x2 H => (aLen 1 x2).go H fun x3 H => p (aBin .lss t5 x3) fun x4 => guardK x4 true (fun k => (aFld 1 t2).go H k) H fun x5 H => (fun (t1 t2 t4 t5 x4 x5 : V) (H : L) (r2 : F4) => guardK x4 true (fun k => (aLoad false 1 x5).go H k) H fun x6 H => guardK x4 true (fun k => (aMov t5).go H k) H fun x7 H => guardK x4 true (fun k => (aIx 2 x6 x7).go H k) H fun x8 H => guardK x4 true (fun k => (aFld 0 x8).go H k) H fun x9 H => (fun (t1 t2 t4 t5 x4 x9 : V) (H : L) (r2 : F4) => guardK x4 true (fun k => (aLoad false 1 x9).go H k) H fun x10 H => guardK x4 true (fun k => (aMov t1).go H k) H fun x11 H => guardK x4 true (fun k => (aBin .lss x10 x11).go H k) H fun x12 H => p (aPick x4 x12 cf) fun x13 => condK x13 (p (aBin .add t5 (ci 1)) fun x14 => r2 t1 t2 t4 x14 H) ((fun (t1 t2 t4 t5 : V) (H : L) => newK 2 H fun q H => (aBsa (q + 0) 2 [(ci 0), .nilS] 0 [] []).go H fun x15 H => (fun (t1 t2 t4 t5 x15 : V) (q : Nat) (H : L) => p (aFld 1 t2) fun x16 => (aLoad false 1 x16).go H fun x17 H => (aSub 2 false true false x17 [t5]).go H fun x18 H => (aAppA (q + 1) 2 32 x15 x18).go H fun x19 H => newK 3 H fun q H => (fun (t1 t2 t4 t5 x19 : V) (q : Nat) (H : L) => (aMksl (q + 0) 1 [(.d (.int .u8 0))] 1 (ci 16) (ci 16)).go H fun x20 H => p (aBuild [(ci 0), .nilS] [(0, 1), (1, 1)] [t1, x20]) fun x21 => (aBsa (q + 1) 2 [(ci 0), .nilS] 1 [0] [x21]).go H fun x22 H => (aAppA (q + 2) 2 32 x19 x22).go H fun x23 H => newK 1 H fun q H => p (aFld 1 t2) fun x24 => (aLoad false 1 x24).go H fun x25 H => (fun (t2 t4 t5 x23 x25 : V) (q : Nat) (H : L) => (aSub 2 true false false x25 [t5]).go H fun x26 H => (aAppA (q + 0) 2 32 x23 x26).go H fun x27 H => p (aFld 1 t2) fun x28 => (aStore 1 x28 x27).go H fun _ H => (aLoad true 2 t2).go H fun x29 H => (aStore 2 t4 x29).go H fun _ H => bnd (loadV true 2 t4 H) fun x30 => some (x30, H)) t2 t4 t5 x23 x25 q H) t1 t2 t4 t5 x19 q H) t1 t2 t4 t5 x15 q H) t1 t2 t4 t5 H)) t1 t2 t4 t5 x4 x9 H r2) t1 t2 t4 t5 x4 x5 H r2) t1 t2 t4 t5 x1 H r2
def j284A_2 (c : Cx) : Nat → Nat → F4 := recN (fun _ _ _ _ _ _ => none) fun ih n2 => b284A_2 c (ih n2) n2
theorem o284A_2 (c : Cx) : d284A_2 c = j284A_2 c := by
  unfold j284A_2
  refine recN_ok (by kernel_rfl) fun m => funext fun n2 => ?_
  funext t1 t2 t4 t5 H
  refine Eq.trans (jnK_eq 1125899906842678 _ _ H _) ?_
  kernel_rfl
def b284A_1 (c : Cx) (j2 : Nat → Nat → F4) (t0 t1 : V) (H : List Blk) : X := newK 2 H fun q H => (aBox (q + 0) t0).go H fun x1 H => (aAlloc (q + 1) [(ci 0), .nilS]).go H fun x2 H => (aLoad true 2 x1).go H fun x3 H => icK c 10283 [x3, t1] H fun x4 H => p (aBin .geq x4 (ci 0)) fun x5 => condK x5 ((aLoad true 2 x1).go H fun x6 H => (aStore 2 x2 x6).go H fun _ H => bnd (loadV true 2 x2 H) fun x7 => some (x7, H)) (j2 c.n H.length t1 x1 x2 (ci 0) H)
def j284A_1 (c : Cx) : F2 := b284A_1 c (j284A_2 c)
theorem o284A_1 (c : Cx) : d284A_1 c = j284A_1 c := by
  unfold j284A_1; rw [← o284A_2]
  funext t0 t1 H
  refine Eq.trans (stepK_jn c.pc c.ic c.n _ H _ 562949953421315 c284A_1) ?_
  kernel_rfl
def b284A_0 (c : Cx) (j1 : F2) (t0 t1 : V) (H : List Blk) : X := j1 t0 t1 H
def s284A (c : Cx) (args : List V) (H : List Blk) : X := argsK 2 args (b284A_0 c (j284A_1 c) (getT args 0) (getT args 1) H)
theorem e284A (pc ic n args H) : runK pc ic n c284A args H = s284A ⟨pc, ic, n⟩ args H := by
  unfold s284A; rw [← o284A_1]
  kernel_rfl
def L284A : Leaf := ⟨c284A, fun pc ic n => s284A ⟨pc, ic, n⟩, e284A⟩
theorem kk284A : chkFn Go.Proofs.Tryz.prog ET 10284 c284A = true := by kernel_rfl

end
end Go.Vm.T
