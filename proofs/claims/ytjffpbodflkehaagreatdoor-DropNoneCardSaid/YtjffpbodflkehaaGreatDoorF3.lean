/- Functions of the program: the machine's code, plain Lean, their equality; that the code is the program's. Printed by a program of mine. -/
import Derived.Test.YtjffpbodflkehaaGreatDoorZ
import Derived.KernelRfl
set_option maxRecDepth 100000
set_option linter.unusedVariables false
namespace Go.Vm.T
open Go.Vm.I
noncomputable section
def l178_0 : List O := [o 32 (.load true 7) [.t 5] 0, o 33 (.fld 1) [.t 15] 1, ⟨some 34, .load false 1, [.t 33], none, 2, 2⟩, ⟨none, .store 7, [.t 10, .t 32], none, 1, 3⟩, ⟨some 11, .mov, [.t 34], none, 15, 4⟩, ⟨some 12, .mov, [.c (ci 0)], none, 31, 5⟩]
def c178_2 : C := (.seq (.reg 0 none [o 25 (.bin .lss) [.t 24, .t 23] 0]) (.seq (.cond (.t 25) .skip (.exit 0)) (.seq (.blk 1 (.seq (.reg 1 none [o 26 (.ix 2) [.t 22, .t 24] 0, o 27 (.load true 2) [.t 26] 1, o 15 (.alloc 0 [(ci 0), (ci 0)]) [] 2, ⟨none, .store 2, [.t 15, .t 27], none, 0, 3⟩]) (.seq (.reg 0 none [o 28 (.fld 0) [.t 15] 0, o 29 (.load false 1) [.t 28] 1, m 30 (.t 2) 2, o 31 (.bin .eql) [.t 29, .t 30] 3]) (.cond (.t 31) (.seq (.reg 0 (some ⟨false, [0, 3, 1, 2, 4, 5], 61⟩) l178_0) .ret) .skip)))) (.reg 0 none [o 35 (.bin .add) [.t 24, .c (ci 1)] 0, m 24 (.t 35) 1]))))
def c178_s1 : C := (.seq (.reg 0 (some ⟨true, [0, 1, 2, 3, 4, 5, 6, 7, 9, 8, 10], 61⟩) [o 37 (.fld 3) [.t 5] 0, ⟨some 38, .load true 4, [.t 37], none, 1, 1⟩, m 39 (.t 13) 2, ⟨some 40, .ix 2, [.t 39, .c (ci 0)], none, 4, 3⟩, ⟨some 41, .load true 2, [.t 40], none, 12, 4⟩, ⟨some 42, .call 34, [.t 38, .t 41], none, 31, 5⟩, ⟨some 36, .mov, [.t 42], none, 63, 6⟩, ⟨some 43, .ext 0, [.t 36], none, 127, 7⟩, ⟨some 44, .ext 1, [.t 36], none, 127, 8⟩, ⟨some 16, .mov, [.t 43], none, 255, 9⟩, ⟨some 17, .mov, [.t 44], none, 1023, 10⟩]) (.seq (.reg 0 (some ⟨true, [], 61⟩) [o 45 (.load true 7) [.t 5] 0, m 46 (.t 2) 1, m 47 (.t 3) 2, m 48 (.t 4) 3, o 49 (.load true 7) [.t 5] 4, m 50 (.t 13) 5, ⟨some 51, .ix 2, [.t 50, .c (ci 0)], none, 32, 6⟩, ⟨some 52, .load true 2, [.t 51], none, 96, 7⟩, ⟨some 53, .call 37, [.t 49, .t 52], none, 240, 8⟩, ⟨some 54, .fldv 2 1 false, [.t 53], none, 496, 9⟩, ⟨some 55, .build z1 [(1, 1), (2, 1)], [.c (ci 2), .t 54], none, 1008, 10⟩, m 56 (.t 16) 11, ⟨some 57, .call 267, [.t 45, .t 46, .t 47, .t 48, .t 55, .t 56], none, 4095, 12⟩, ⟨some 58, .ext 0, [.t 57], none, 8191, 13⟩, ⟨some 59, .ext 1, [.t 57], none, 8191, 14⟩, ⟨some 60, .ext 2, [.t 57], none, 8191, 15⟩, ⟨none, .store 7, [.t 10, .t 58], none, 65535, 16⟩, ⟨some 11, .mov, [.t 59], none, 131071, 17⟩, ⟨some 12, .mov, [.t 60], none, 262143, 18⟩]) .ret))
def c178_1 : C := (.seq (.reg 2 none [o 5 (.box 0) [.t 0] 0, o 10 (.alloc 1 z14) [] 1, m 11 (.c (ci 0)) 2, m 12 (.c (ci 0)) 3]) (.seq (.reg 0 none [o 18 (.load true 7) [.t 5] 0, m 19 (.t 1) 1, m 20 (.t 4) 2, o 21 (.call 79) [.t 18, .t 19, .t 20] 3, m 13 (.t 21) 4]) (.seq (.seq (.reg 0 none [m 22 (.t 13) 0, o 23 (.len 1) [.t 22] 1, m 24 (.c (ci 0)) 2]) (.blk 0 (.loop 4611686018456757308 true c178_2))) c178_s1)))
def c178 : Fn := { fid := 178, np := 5, ntmps := 61, body := (.jn 2305843009213693983 c178_1), res := [.cell 10 true 7, .tmp 11, .tmp 12] }
def d178_1 (c : Cx) (t0 t1 t2 t3 t4 : V) (H : List Blk) : X := stepK c.pc c.ic c.n (.jn 2305843009213693983 c178_1) (cn 0 61 [(0, t0), (1, t1), (2, t2), (3, t3), (4, t4)]) H (kTop c178.res)
def k178_1 (c : Cx) : KT := thenK (stepK c.pc c.ic c.n c178_s1) (kTop c178.res)
def k178_2 (c : Cx) : KT := blkK 0 (k178_1 c)
def d178_2 (c : Cx) (m n2 : Nat) (t2 t3 t4 t5 t10 t13 t22 t23 t24 : V) (H : List Blk) : X := jnK (loopsK (stepK c.pc c.ic c.n c178_2) 4611686018456757308 true n2 m) (cn 0 61 [(2, t2), (3, t3), (4, t4), (5, t5), (10, t10), (13, t13), (22, t22), (23, t23), (24, t24)]) H (k178_2 c) 4611686018456757308
def b178_2 (c : Cx) (r2 : F9) (n2 : Nat) (t2 t3 t4 t5 t10 t13 t22 t23 t24 : V) (H : List Blk) : X := bnd (trimF true n2 [t2, t3, t4, t5, t10, t13, t22, t23, t24] H) fun H => p (aBin .lss t24 t23) fun x1 => condK x1 ((fun (t2 t3 t4 t5 t10 t13 t22 t23 t24 x1 : V) (H : L) (c : Cx) (r2 : F9) => newK 1 H fun q H => (fun (t2 t3 t4 t5 t10 t13 t22 t23 t24 x1 : V) (q : Nat) (H : L) (c : Cx) (r2 : F9) => p (aIx 2 t22 t24) fun x2 => (aLoad true 2 x2).go H fun x3 H => (aAlloc (q + 0) [(ci 0), (ci 0)]).go H fun x4 H => (aStore 2 x4 x3).go H fun _ H => p (aFld 0 x4) fun x5 => (aLoad false 1 x5).go H fun x6 H => p (aBin .eql x6 t2) fun x7 => condK x7 ((fun (t2 t3 t4 t5 t10 t13 t22 t23 t24 x1 x2 x3 x4 x5 x6 x7 : V) (H : L) (c : Cx) => drawnK c.pc c.ic l178_0 0 (cn 0 61 [(2, t2), (3, t3), (4, t4), (5, t5), (10, t10), (13, t13), (15, x4), (22, t22), (23, t23), (24, t24), (25, x1), (26, x2), (27, x3), (28, x5), (29, x6), (30, t2), (31, x7)]) H fun ts7 H => bnd (loadV true 7 (getT ts7 10) H) fun x9 => some (.tup [x9, (getT ts7 11), (getT ts7 12)], H)) t2 t3 t4 t5 t10 t13 t22 t23 t24 x1 x2 x3 x4 x5 x6 x7 H c) (p (aBin .add t24 (ci 1)) fun x10 => r2 t2 t3 t4 t5 t10 t13 t22 t23 x10 H)) t2 t3 t4 t5 t10 t13 t22 t23 t24 x1 q H c r2) t2 t3 t4 t5 t10 t13 t22 t23 t24 x1 H c r2) ((fun (t2 t3 t4 t5 t10 t13 : V) (H : L) (c : Cx) => p (aFld 3 t5) fun x11 => (aLoad true 4 x11).go H fun x12 H => p (aIx 2 t13 (ci 0)) fun x13 => (fun (t2 t3 t4 t5 t10 t13 x12 x13 : V) (H : L) (c : Cx) => (aLoad true 2 x13).go H fun x14 H => p (aCall c.pc 34 [x12, x14]) fun x15 => p (aExt 0 x15) fun x16 => p (aExt 1 x15) fun x17 => (aLoad true 7 t5).go H fun x18 H => (aLoad true 7 t5).go H fun x19 H => p (aIx 2 t13 (ci 0)) fun x20 => (aLoad true 2 x20).go H fun x21 H => (fun (t2 t3 t4 t10 x16 x18 x19 x21 : V) (H : L) (c : Cx) => p (aCall c.pc 37 [x19, x21]) fun x22 => p (aFldv 2 1 false x22) fun x23 => p (aBuild z1 [(1, 1), (2, 1)] [(ci 2), x23]) fun x24 => p (aCall c.pc 267 [x18, t2, t3, t4, x24, x16]) fun x25 => (fun (t10 x25 : V) (H : L) => p (aExt 0 x25) fun x26 => p (aExt 1 x25) fun x27 => p (aExt 2 x25) fun x28 => (aStore 7 t10 x26).go H fun _ H => bnd (loadV true 7 t10 H) fun x29 => some (.tup [x29, x27, x28], H)) t10 x25 H) t2 t3 t4 t10 x16 x18 x19 x21 H c) t2 t3 t4 t5 t10 t13 x12 x13 H c) t2 t3 t4 t5 t10 t13 H c)
def j178_2 (c : Cx) : Nat → Nat → F9 := recN (fun _ _ _ _ _ _ _ _ _ _ _ => none) fun ih n2 => b178_2 c (ih n2) n2
theorem o178_2 (c : Cx) : d178_2 c = j178_2 c := by
  unfold j178_2
  refine recN_ok (by kernel_rfl) fun m => funext fun n2 => ?_
  funext t2 t3 t4 t5 t10 t13 t22 t23 t24 H
  refine Eq.trans (jnK_eq 4611686018456757308 _ _ H _) ?_
  kernel_rfl
def b178_1 (c : Cx) (j2 : Nat → Nat → F9) (t0 t1 t2 t3 t4 : V) (H : List Blk) : X := newK 2 H fun q H => (aBox (q + 0) t0).go H fun x1 H => (aAlloc (q + 1) z14).go H fun x2 H => (aLoad true 7 x1).go H fun x3 H => p (aCall c.pc 79 [x3, t1, t4]) fun x4 => (aLen 1 x4).go H fun x5 H => j2 c.n H.length t2 t3 t4 x1 x2 x4 x4 x5 (ci 0) H
def j178_1 (c : Cx) : F5 := b178_1 c (j178_2 c)
theorem o178_1 (c : Cx) : d178_1 c = j178_1 c := by
  unfold j178_1; rw [← o178_2]
  funext t0 t1 t2 t3 t4 H
  refine Eq.trans (stepK_jn c.pc c.ic c.n _ H _ 2305843009213693983 c178_1) ?_
  kernel_rfl
def b178_0 (c : Cx) (j1 : F5) (t0 t1 t2 t3 t4 : V) (H : List Blk) : X := j1 t0 t1 t2 t3 t4 H
def s178 (c : Cx) (args : List V) (H : List Blk) : X := argsK 5 args (b178_0 c (j178_1 c) (getT args 0) (getT args 1) (getT args 2) (getT args 3) (getT args 4) H)
theorem e178 (pc ic n args H) : runK pc ic n c178 args H = s178 ⟨pc, ic, n⟩ args H := by
  unfold s178; rw [← o178_1]
  kernel_rfl
def L178 : Leaf := ⟨c178, fun pc ic n => s178 ⟨pc, ic, n⟩, e178⟩
theorem kk178 : chkFn Go.Proofs.Tryz.prog ET 178 c178 = true := by kernel_rfl

def c179_1 : C := (.seq (.reg 1 none [o 3 (.box 0) [.t 0] 0, m 6 (.c cf) 1]) (.seq (.reg 1 none [o 12 (.load true 4) [.t 3] 0, m 13 (.t 1) 1, o 14 (.call 85) [.t 12, .t 13] 2, m 11 (.t 14) 3, o 15 (.ext 0) [.t 11] 4, o 16 (.ext 1) [.t 11] 5, o 7 (.alloc 0 z1) [] 6, ⟨none, .store 8, [.t 7, .t 15], none, 0, 7⟩, m 8 (.t 16) 8]) (.seq (.reg 0 none [o 18 (.load true 8) [.t 7] 0, m 19 (.t 2) 1, o 20 (.call 90) [.t 18, .t 19] 2, m 17 (.t 20) 3, o 21 (.ext 0) [.t 17] 4, o 22 (.ext 1) [.t 17] 5, m 9 (.t 21) 6, m 10 (.t 22) 7]) (.seq (.reg 0 none [m 23 (.t 10) 0, m 24 (.t 23) 1, ⟨some 25, .fld 1, [.t 7], some (24, true), 0, 2⟩, ⟨some 26, .load false 1, [.t 25], some (24, true), 0, 3⟩, ⟨some 27, .bin .eql, [.t 26, .c (ci 2)], some (24, true), 0, 4⟩, o 28 .pick [.t 24, .t 27, .c cf] 5, m 6 (.t 28) 6]) .ret))))
def c179 : Fn := { fid := 179, np := 3, ntmps := 29, body := (.jn 536870919 c179_1), res := [.tmp 6] }
def d179_1 (c : Cx) (t0 t1 t2 : V) (H : List Blk) : X := stepK c.pc c.ic c.n (.jn 536870919 c179_1) (cn 0 29 [(0, t0), (1, t1), (2, t2)]) H (kTop c179.res)
def b179_1 (c : Cx) (t0 t1 t2 : V) (H : List Blk) : X := newK 1 H fun q H => (aBox (q + 0) t0).go H fun x1 H => newK 1 H fun q H => (aLoad true 4 x1).go H fun x2 H => p (aCall c.pc 85 [x2, t1]) fun x3 => (fun (t2 x3 : V) (q : Nat) (H : L) (c : Cx) => p (aExt 0 x3) fun x4 => p (aExt 1 x3) fun x5 => (aAlloc (q + 0) z1).go H fun x6 H => (aStore 8 x6 x4).go H fun _ H => (aLoad true 8 x6).go H fun x7 H => p (aCall c.pc 90 [x7, t2]) fun x8 => p (aExt 0 x8) fun x9 => p (aExt 1 x8) fun x10 => guardK x10 true (fun k => (aFld 1 x6).go H k) H fun x11 H => guardK x10 true (fun k => (aLoad false 1 x11).go H k) H fun x12 H => guardK x10 true (fun k => (aBin .eql x12 (ci 2)).go H k) H fun x13 H => p (aPick x10 x13 cf) fun x14 => some (x14, H)) t2 x3 q H c
def j179_1 (c : Cx) : F3 := b179_1 c
theorem o179_1 (c : Cx) : d179_1 c = j179_1 c := by
  unfold j179_1
  funext t0 t1 t2 H
  refine Eq.trans (stepK_jn c.pc c.ic c.n _ H _ 536870919 c179_1) ?_
  kernel_rfl
def b179_0 (c : Cx) (j1 : F3) (t0 t1 t2 : V) (H : List Blk) : X := j1 t0 t1 t2 H
def s179 (c : Cx) (args : List V) (H : List Blk) : X := argsK 3 args (b179_0 c (j179_1 c) (getT args 0) (getT args 1) (getT args 2) H)
theorem e179 (pc ic n args H) : runK pc ic n c179 args H = s179 ⟨pc, ic, n⟩ args H := by
  unfold s179; rw [← o179_1]
  kernel_rfl
def L179 : Leaf := ⟨c179, fun pc ic n => s179 ⟨pc, ic, n⟩, e179⟩
theorem kk179 : chkFn Go.Proofs.Tryz.prog ET 179 c179 = true := by kernel_rfl

def c180_1 : C := (.seq (.reg 2 none [o 2 (.box 0) [.t 0] 0, o 3 (.box 1) [.t 1] 1, m 4 (.c cf) 2]) (.seq (.reg 0 (some ⟨true, [], 21⟩) [o 5 (.fld 0) [.t 2] 0, ⟨some 6, .load true 2, [.t 5], none, 1, 1⟩, o 7 (.fld 0) [.t 3] 2, ⟨some 8, .load false 1, [.t 7], none, 4, 3⟩, ⟨some 9, .call 268, [.t 6, .t 8], none, 15, 4⟩, ⟨some 10, .mov, [.t 9], none, 31, 5⟩, ⟨some 11, .fld 2, [.t 2], some (10, true), 63, 6⟩, ⟨some 12, .load false 1, [.t 11], some (10, true), 127, 7⟩, ⟨some 13, .fld 0, [.t 3], some (10, true), 63, 8⟩, ⟨some 14, .load false 1, [.t 13], some (10, true), 319, 9⟩, ⟨some 15, .ix 4, [.t 12, .t 14], some (10, true), 1023, 10⟩, ⟨some 16, .load true 4, [.t 15], some (10, true), 2047, 11⟩, ⟨some 17, .fld 1, [.t 3], some (10, true), 63, 12⟩, ⟨some 18, .load false 1, [.t 17], some (10, true), 4159, 13⟩, ⟨some 19, .call 269, [.t 16, .t 18], some (10, true), 16383, 14⟩, ⟨some 20, .pick, [.t 10, .t 19, .c cf], none, 32767, 15⟩, ⟨some 4, .mov, [.t 20], none, 65535, 16⟩]) .ret))
def c180 : Fn := { fid := 180, np := 2, ntmps := 21, body := (.jn 2097155 c180_1), res := [.tmp 4] }
def d180_1 (c : Cx) (t0 t1 : V) (H : List Blk) : X := stepK c.pc c.ic c.n (.jn 2097155 c180_1) (cn 0 21 [(0, t0), (1, t1)]) H (kTop c180.res)
def b180_1 (c : Cx) (t0 t1 : V) (H : List Blk) : X := newK 2 H fun q H => (aBox (q + 0) t0).go H fun x1 H => (aBox (q + 1) t1).go H fun x2 H => p (aFld 0 x1) fun x3 => (aLoad true 2 x3).go H fun x4 H => p (aFld 0 x2) fun x5 => (fun (x1 x2 x4 x5 : V) (H : L) (c : Cx) => (aLoad false 1 x5).go H fun x6 H => p (aCall c.pc 268 [x4, x6]) fun x7 => guardK x7 true (fun k => (aFld 2 x1).go H k) H fun x8 H => guardK x7 true (fun k => (aLoad false 1 x8).go H k) H fun x9 H => (fun (x2 x7 x9 : V) (H : L) (c : Cx) => guardK x7 true (fun k => (aFld 0 x2).go H k) H fun x10 H => guardK x7 true (fun k => (aLoad false 1 x10).go H k) H fun x11 H => guardK x7 true (fun k => (aIx 4 x9 x11).go H k) H fun x12 H => guardK x7 true (fun k => (aLoad true 4 x12).go H k) H fun x13 H => (fun (x2 x7 x13 : V) (H : L) (c : Cx) => guardK x7 true (fun k => (aFld 1 x2).go H k) H fun x14 H => guardK x7 true (fun k => (aLoad false 1 x14).go H k) H fun x15 H => guardK x7 true (fun k => (aCall c.pc 269 [x13, x15]).go H k) H fun x16 H => p (aPick x7 x16 cf) fun x17 => some (x17, H)) x2 x7 x13 H c) x2 x7 x9 H c) x1 x2 x4 x5 H c
def j180_1 (c : Cx) : F2 := b180_1 c
theorem o180_1 (c : Cx) : d180_1 c = j180_1 c := by
  unfold j180_1
  funext t0 t1 H
  refine Eq.trans (stepK_jn c.pc c.ic c.n _ H _ 2097155 c180_1) ?_
  kernel_rfl
def b180_0 (c : Cx) (j1 : F2) (t0 t1 : V) (H : List Blk) : X := j1 t0 t1 H
def s180 (c : Cx) (args : List V) (H : List Blk) : X := argsK 2 args (b180_0 c (j180_1 c) (getT args 0) (getT args 1) H)
theorem e180 (pc ic n args H) : runK pc ic n c180 args H = s180 ⟨pc, ic, n⟩ args H := by
  unfold s180; rw [← o180_1]
  kernel_rfl
def L180 : Leaf := ⟨c180, fun pc ic n => s180 ⟨pc, ic, n⟩, e180⟩
theorem kk180 : chkFn Go.Proofs.Tryz.prog ET 180 c180 = true := by kernel_rfl

def c181_1 : C := (.seq (.reg 2 none [o 3 (.box 0) [.t 0] 0, o 4 (.box 1) [.t 1] 1, m 6 (.c cf) 2]) (.seq (.reg 0 (some ⟨true, [], 24⟩) [o 7 (.fld 0) [.t 3] 0, ⟨some 8, .load true 2, [.t 7], none, 1, 1⟩, o 9 (.fld 0) [.t 4] 2, ⟨some 10, .load false 1, [.t 9], none, 4, 3⟩, ⟨some 11, .call 268, [.t 8, .t 10], none, 15, 4⟩, ⟨some 12, .mov, [.t 11], none, 31, 5⟩, ⟨some 13, .fld 2, [.t 3], some (12, true), 63, 6⟩, ⟨some 14, .load false 1, [.t 13], some (12, true), 127, 7⟩, ⟨some 15, .fld 0, [.t 4], some (12, true), 63, 8⟩, ⟨some 16, .load false 1, [.t 15], some (12, true), 319, 9⟩, ⟨some 17, .ix 4, [.t 14, .t 16], some (12, true), 1023, 10⟩, ⟨some 18, .load true 4, [.t 17], some (12, true), 2047, 11⟩, ⟨some 19, .fld 1, [.t 4], some (12, true), 63, 12⟩, ⟨some 20, .load false 1, [.t 19], some (12, true), 4159, 13⟩, ⟨some 21, .mov, [.t 2], some (12, true), 63, 14⟩, ⟨some 22, .call 225, [.t 18, .t 20, .t 21], some (12, true), 32767, 15⟩, ⟨some 23, .pick, [.t 12, .t 22, .c cf], none, 65535, 16⟩, ⟨some 6, .mov, [.t 23], none, 131071, 17⟩]) .ret))
def c181 : Fn := { fid := 181, np := 3, ntmps := 24, body := (.jn 16777223 c181_1), res := [.tmp 6] }
def d181_1 (c : Cx) (t0 t1 t2 : V) (H : List Blk) : X := stepK c.pc c.ic c.n (.jn 16777223 c181_1) (cn 0 24 [(0, t0), (1, t1), (2, t2)]) H (kTop c181.res)
def b181_1 (c : Cx) (t0 t1 t2 : V) (H : List Blk) : X := newK 2 H fun q H => (aBox (q + 0) t0).go H fun x1 H => (aBox (q + 1) t1).go H fun x2 H => p (aFld 0 x1) fun x3 => (aLoad true 2 x3).go H fun x4 H => p (aFld 0 x2) fun x5 => (aLoad false 1 x5).go H fun x6 H => (fun (t2 x1 x2 x4 x6 : V) (H : L) (c : Cx) => p (aCall c.pc 268 [x4, x6]) fun x7 => guardK x7 true (fun k => (aFld 2 x1).go H k) H fun x8 H => guardK x7 true (fun k => (aLoad false 1 x8).go H k) H fun x9 H => guardK x7 true (fun k => (aFld 0 x2).go H k) H fun x10 H => (fun (t2 x2 x7 x9 x10 : V) (H : L) (c : Cx) => guardK x7 true (fun k => (aLoad false 1 x10).go H k) H fun x11 H => guardK x7 true (fun k => (aIx 4 x9 x11).go H k) H fun x12 H => guardK x7 true (fun k => (aLoad true 4 x12).go H k) H fun x13 H => guardK x7 true (fun k => (aFld 1 x2).go H k) H fun x14 H => (fun (t2 x7 x13 x14 : V) (H : L) (c : Cx) => guardK x7 true (fun k => (aLoad false 1 x14).go H k) H fun x15 H => guardK x7 true (fun k => (aMov t2).go H k) H fun x16 H => guardK x7 true (fun k => (aCall c.pc 225 [x13, x15, x16]).go H k) H fun x17 H => p (aPick x7 x17 cf) fun x18 => some (x18, H)) t2 x7 x13 x14 H c) t2 x2 x7 x9 x10 H c) t2 x1 x2 x4 x6 H c
def j181_1 (c : Cx) : F3 := b181_1 c
theorem o181_1 (c : Cx) : d181_1 c = j181_1 c := by
  unfold j181_1
  funext t0 t1 t2 H
  refine Eq.trans (stepK_jn c.pc c.ic c.n _ H _ 16777223 c181_1) ?_
  kernel_rfl
def b181_0 (c : Cx) (j1 : F3) (t0 t1 t2 : V) (H : List Blk) : X := j1 t0 t1 t2 H
def s181 (c : Cx) (args : List V) (H : List Blk) : X := argsK 3 args (b181_0 c (j181_1 c) (getT args 0) (getT args 1) (getT args 2) H)
theorem e181 (pc ic n args H) : runK pc ic n c181 args H = s181 ⟨pc, ic, n⟩ args H := by
  unfold s181; rw [← o181_1]
  kernel_rfl
def L181 : Leaf := ⟨c181, fun pc ic n => s181 ⟨pc, ic, n⟩, e181⟩
theorem kk181 : chkFn Go.Proofs.Tryz.prog ET 181 c181 = true := by kernel_rfl

def c182_2 : C := (.seq (.seq (.reg 0 none [m 7 (.t 6) 0, o 8 (.fld 3) [.t 2] 1, o 9 (.load false 1) [.t 8] 2, o 10 (.len 1) [.t 9] 3, o 11 (.bin .lss) [.t 7, .t 10] 4]) (.cond (.t 11) .skip (.exit 0))) (.seq (.blk 1 (.seq (.reg 0 none [o 14 (.fld 3) [.t 2] 0, o 15 (.load false 1) [.t 14] 1, m 16 (.t 6) 2, o 17 (.ix 8) [.t 15, .t 16] 3, o 18 (.fld 0) [.t 17] 4, o 19 (.load false 1) [.t 18] 5, m 20 (.t 1) 6, o 21 (.bin .neq) [.t 19, .t 20] 7]) (.cond (.t 21) (.reg 1 none [m 22 (.t 5) 0, o 23 (.fld 3) [.t 2] 1, o 24 (.load false 1) [.t 23] 2, m 25 (.t 6) 3, o 26 (.ix 8) [.t 24, .t 25] 4, o 27 (.load true 8) [.t 26] 5, o 28 (.bsl 8 z3 1 [0]) [.t 27] 6, o 29 (.app 0 8 104) [.t 22, .t 28] 7, m 5 (.t 29) 8]) .skip))) (.reg 0 none [m 12 (.t 6) 0, o 13 (.bin .add) [.t 12, .c (ci 1)] 1, m 6 (.t 13) 2])))
def c182_s1 : C := (.seq (.reg 0 none [m 30 (.t 5) 0, o 31 (.fld 3) [.t 2] 1, ⟨none, .store 1, [.t 31, .t 30], none, 0, 2⟩]) (.seq (.reg 0 none [o 32 (.load true 4) [.t 2] 0, ⟨none, .store 4, [.t 4, .t 32], none, 0, 1⟩]) .ret))
def c182_1 : C := (.seq (.reg 2 none [o 2 (.box 0) [.t 0] 0, o 4 (.alloc 1 z0) [] 1]) (.seq (.reg 0 none [m 5 (.c .nilS) 0]) (.seq (.seq (.reg 0 none [m 6 (.c (ci 0)) 0]) (.blk 0 (.loop 17179869302 false c182_2))) c182_s1)))
def c182 : Fn := { fid := 182, np := 2, ntmps := 33, body := (.jn 8589934595 c182_1), res := [.cell 4 true 4] }
def d182_1 (c : Cx) (t0 t1 : V) (H : List Blk) : X := stepK c.pc c.ic c.n (.jn 8589934595 c182_1) (cn 0 33 [(0, t0), (1, t1)]) H (kTop c182.res)
def k182_1 (c : Cx) : KT := thenK (stepK c.pc c.ic c.n c182_s1) (kTop c182.res)
def k182_2 (c : Cx) : KT := blkK 0 (k182_1 c)
def d182_2 (c : Cx) (m n2 : Nat) (t1 t2 t4 t5 t6 : V) (H : List Blk) : X := jnK (loopsK (stepK c.pc c.ic c.n c182_2) 17179869302 false n2 m) (cn 0 33 [(1, t1), (2, t2), (4, t4), (5, t5), (6, t6)]) H (k182_2 c) 17179869302
def b182_2 (c : Cx) (r2 : F5) (n2 : Nat) (t1 t2 t4 t5 t6 : V) (H : List Blk) : X := p (aFld 3 t2) fun x1 => (aLoad false 1 x1).go H fun x2 H => (aLen 1 x2).go H fun x3 H => p (aBin .lss t6 x3) fun x4 => condK x4 ((fun (t1 t2 t4 t5 t6 : V) (H : L) (r2 : F5) => p (aFld 3 t2) fun x5 => (aLoad false 1 x5).go H fun x6 H => (fun (t1 t2 t4 t5 t6 x6 : V) (H : L) (r2 : F5) => p (aIx 8 x6 t6) fun x7 => p (aFld 0 x7) fun x8 => (aLoad false 1 x8).go H fun x9 H => p (aBin .neq x9 t1) fun x10 => condK x10 ((fun (t1 t2 t4 t5 t6 : V) (H : L) (r2 : F5) => newK 1 H fun q H => p (aFld 3 t2) fun x11 => (aLoad false 1 x11).go H fun x12 H => (fun (t1 t2 t4 t5 t6 x12 : V) (q : Nat) (H : L) (r2 : F5) => p (aIx 8 x12 t6) fun x13 => (aLoad true 8 x13).go H fun x14 H => p (aBsl 8 z3 1 [0] [x14]) fun x15 => (aApp (q + 0) 8 104 t5 x15).go H fun x16 H => p (aBin .add t6 (ci 1)) fun x17 => r2 t1 t2 t4 x16 x17 H) t1 t2 t4 t5 t6 x12 q H r2) t1 t2 t4 t5 t6 H r2) (p (aBin .add t6 (ci 1)) fun x18 => r2 t1 t2 t4 t5 x18 H)) t1 t2 t4 t5 t6 x6 H r2) t1 t2 t4 t5 t6 H r2) ((fun (t2 t4 t5 : V) (H : L) => p (aFld 3 t2) fun x19 => (aStore 1 x19 t5).go H fun _ H => (aLoad true 4 t2).go H fun x20 H => (aStore 4 t4 x20).go H fun _ H => bnd (loadV true 4 t4 H) fun x21 => some (x21, H)) t2 t4 t5 H)
def j182_2 (c : Cx) : Nat → Nat → F5 := recN (fun _ _ _ _ _ _ _ => none) fun ih n2 => b182_2 c (ih n2) n2
theorem o182_2 (c : Cx) : d182_2 c = j182_2 c := by
  unfold j182_2
  refine recN_ok (by kernel_rfl) fun m => funext fun n2 => ?_
  funext t1 t2 t4 t5 t6 H
  refine Eq.trans (jnK_eq 17179869302 _ _ H _) ?_
  kernel_rfl
def b182_1 (c : Cx) (j2 : Nat → Nat → F5) (t0 t1 : V) (H : List Blk) : X := newK 2 H fun q H => (aBox (q + 0) t0).go H fun x1 H => (aAlloc (q + 1) z0).go H fun x2 H => j2 c.n H.length t1 x1 x2 .nilS (ci 0) H
def j182_1 (c : Cx) : F2 := b182_1 c (j182_2 c)
theorem o182_1 (c : Cx) : d182_1 c = j182_1 c := by
  unfold j182_1; rw [← o182_2]
  funext t0 t1 H
  refine Eq.trans (stepK_jn c.pc c.ic c.n _ H _ 8589934595 c182_1) ?_
  kernel_rfl
def b182_0 (c : Cx) (j1 : F2) (t0 t1 : V) (H : List Blk) : X := j1 t0 t1 H
def s182 (c : Cx) (args : List V) (H : List Blk) : X := argsK 2 args (b182_0 c (j182_1 c) (getT args 0) (getT args 1) H)
theorem e182 (pc ic n args H) : runK pc ic n c182 args H = s182 ⟨pc, ic, n⟩ args H := by
  unfold s182; rw [← o182_1]
  kernel_rfl
def L182 : Leaf := ⟨c182, fun pc ic n => s182 ⟨pc, ic, n⟩, e182⟩
theorem kk182 : chkFn Go.Proofs.Tryz.prog ET 182 c182 = true := by kernel_rfl

def c183 : Fn := { fid := 183, np := 1, ntmps := 11, body := (.seq (.reg 0 none [m 2 (.c cf) 0]) (.seq (.reg 0 none [m 3 (.t 0) 0, o 4 (.len 0) [.t 3] 1, o 5 (.bin .geq) [.t 4, .c (ci 4)] 2, m 6 (.t 5) 3, ⟨some 7, .mov, [.t 0], some (6, true), 0, 4⟩, ⟨some 8, .subStr false true, [.t 7, .c (ci 4)], some (6, true), 0, 5⟩, ⟨some 9, .bin .eql, [.t 8, .c (.d (.str [46, 119, 104, 46]))], some (6, true), 0, 6⟩, o 10 .pick [.t 6, .t 9, .c cf] 7, m 2 (.t 10) 8]) .ret)), res := [.tmp 2] }
def b183_0 (c : Cx) (t0 : V) (H : List Blk) : X := (aLen 0 t0).go H fun x1 H => p (aBin .geq x1 (ci 4)) fun x2 => (fun (t0 x2 : V) (H : L) => guardK x2 true (fun k => (aMov t0).go H k) H fun x3 H => guardK x2 true (fun k => (aSubStr false true x3 [(ci 4)]).go H k) H fun x4 H => guardK x2 true (fun k => (aBin .eql x4 (.d (.str [46, 119, 104, 46]))).go H k) H fun x5 H => p (aPick x2 x5 cf) fun x6 => some (x6, H)) t0 x2 H
def s183 (c : Cx) (args : List V) (H : List Blk) : X := argsK 1 args (b183_0 c (getT args 0) H)
theorem e183 (pc ic n args H) : runK pc ic n c183 args H = s183 ⟨pc, ic, n⟩ args H := by
  unfold s183
  kernel_rfl
def L183 : Leaf := ⟨c183, fun pc ic n => s183 ⟨pc, ic, n⟩, e183⟩
theorem kk183 : chkFn Go.Proofs.Tryz.prog ET 183 c183 = true := by kernel_rfl

def c184_2 : C := (.seq (.seq (.reg 0 none [m 6 (.t 5) 0, m 7 (.t 0) 1, o 8 (.len 1) [.t 7] 2, o 9 (.bin .lss) [.t 6, .t 8] 3, m 10 (.t 9) 4, ⟨some 11, .mov, [.t 0], some (10, true), 0, 5⟩, ⟨some 12, .mov, [.t 5], some (10, true), 0, 6⟩, ⟨some 13, .ix 1, [.t 11, .t 12], some (10, true), 0, 7⟩, ⟨some 14, .load false 1, [.t 13], some (10, true), 0, 8⟩, ⟨some 15, .mov, [.t 1], some (10, true), 0, 9⟩, ⟨some 16, .bin .lss, [.t 14, .t 15], some (10, true), 0, 10⟩, o 17 .pick [.t 10, .t 16, .c cf] 11]) (.cond (.t 17) .skip (.exit 0))) (.blk 1 (.reg 0 none [m 18 (.t 5) 0, o 19 (.bin .add) [.t 18, .c (ci 1)] 1, m 5 (.t 19) 2])))
def l184_0 : List O := [o 33 (.bsl 1 [(.str [])] 0 []) [] 0, m 34 (.t 0) 1, m 35 (.t 5) 2, ⟨some 36, .sub 1 false true false, [.t 34, .t 35], none, 6, 3⟩, ⟨some 37, .app 0 1 16, [.t 33, .t 36], none, 15, 4⟩, m 38 (.t 1) 5, ⟨some 39, .bsl 1 [(.str [])] 1 [0], [.t 38], none, 32, 6⟩, ⟨some 40, .app 1 1 16, [.t 37, .t 39], none, 127, 7⟩, m 41 (.t 0) 8, m 42 (.t 5) 9, ⟨some 43, .sub 1 true false false, [.t 41, .t 42], none, 768, 10⟩, ⟨some 44, .app 2 1 16, [.t 40, .t 43], none, 2047, 11⟩, ⟨some 4, .mov, [.t 44], none, 4095, 12⟩]
def c184_s1 : C := (.seq (.seq (.reg 0 none [m 20 (.t 5) 0, m 21 (.t 0) 1, o 22 (.len 1) [.t 21] 2, o 23 (.bin .lss) [.t 20, .t 22] 3, m 24 (.t 23) 4, ⟨some 25, .mov, [.t 0], some (24, true), 0, 5⟩, ⟨some 26, .mov, [.t 5], some (24, true), 0, 6⟩, ⟨some 27, .ix 1, [.t 25, .t 26], some (24, true), 0, 7⟩, ⟨some 28, .load false 1, [.t 27], some (24, true), 0, 8⟩, ⟨some 29, .mov, [.t 1], some (24, true), 0, 9⟩, ⟨some 30, .bin .eql, [.t 28, .t 29], some (24, true), 0, 10⟩, o 31 .pick [.t 24, .t 30, .c cf] 11]) (.cond (.t 31) (.seq (.reg 0 none [m 32 (.t 0) 0, m 4 (.t 32) 1]) .ret) .skip)) (.seq (.reg 3 (some ⟨false, [], 45⟩) l184_0) .ret))
def c184_1 : C := (.seq (.reg 0 none [m 4 (.c .nilS) 0]) (.seq (.reg 0 none [m 5 (.c (ci 0)) 0]) (.seq (.blk 0 (.loop 70368744177699 false c184_2)) c184_s1)))
def c184 : Fn := { fid := 184, np := 2, ntmps := 45, body := (.jn 35184372088835 c184_1), res := [.tmp 4] }
def d184_1 (c : Cx) (t0 t1 : V) (H : List Blk) : X := stepK c.pc c.ic c.n (.jn 35184372088835 c184_1) (cn 0 45 [(0, t0), (1, t1)]) H (kTop c184.res)
def k184_1 (c : Cx) : KT := thenK (stepK c.pc c.ic c.n c184_s1) (kTop c184.res)
def k184_2 (c : Cx) : KT := blkK 0 (k184_1 c)
def d184_2 (c : Cx) (m n2 : Nat) (t0 t1 t5 : V) (H : List Blk) : X := jnK (loopsK (stepK c.pc c.ic c.n c184_2) 70368744177699 false n2 m) (cn 0 45 [(0, t0), (1, t1), (5, t5)]) H (k184_2 c) 70368744177699
def b184_2 (c : Cx) (r2 : F3) (n2 : Nat) (t0 t1 t5 : V) (H : List Blk) : X := (aLen 1 t0).go H fun x1 H => (fun (t0 t1 t5 x1 : V) (H : L) (c : Cx) (r2 : F3) => p (aBin .lss t5 x1) fun x2 => guardK x2 true (fun k => (aMov t0).go H k) H fun x3 H => guardK x2 true (fun k => (aMov t5).go H k) H fun x4 H => guardK x2 true (fun k => (aIx 1 x3 x4).go H k) H fun x5 H => (fun (t0 t1 t5 x1 x2 x3 x4 x5 : V) (H : L) (c : Cx) (r2 : F3) => guardK x2 true (fun k => (aLoad false 1 x5).go H k) H fun x6 H => guardK x2 true (fun k => (aMov t1).go H k) H fun x7 H => guardK x2 true (fun k => (aBin .lss x6 x7).go H k) H fun x8 H => p (aPick x2 x8 cf) fun x9 => condK x9 (p (aBin .add t5 (ci 1)) fun x10 => r2 t0 t1 x10 H) ((fun (t0 t1 t5 x1 x2 x3 x4 x5 x6 x7 x8 x9 : V) (H : L) (c : Cx) => (aLen 1 t0).go H fun x11 H => (fun (t0 t1 t5 x1 x2 x3 x4 x5 x6 x7 x8 x9 x11 : V) (H : L) (c : Cx) => p (aBin .lss t5 x11) fun x12 => guardK x12 true (fun k => (aMov t0).go H k) H fun x13 H => guardK x12 true (fun k => (aMov t5).go H k) H fun x14 H => guardK x12 true (fun k => (aIx 1 x13 x14).go H k) H fun x15 H => (fun (t0 t1 t5 x1 x2 x3 x4 x5 x6 x7 x8 x9 x11 x12 x13 x14 x15 : V) (H : L) (c : Cx) => guardK x12 true (fun k => (aLoad false 1 x15).go H k) H fun x16 H => guardK x12 true (fun k => (aMov t1).go H k) H fun x17 H => guardK x12 true (fun k => (aBin .eql x16 x17).go H k) H fun x18 H => p (aPick x12 x18 cf) fun x19 => condK x19 (some (t0, H)) ((fun (t0 t1 t5 x1 x2 x3 x4 x5 x6 x7 x8 x9 x11 x12 x13 x14 x15 x16 x17 x18 x19 : V) (H : L) (c : Cx) => newK 3 H fun q H => drawnK c.pc c.ic l184_0 q (cn 0 45 [(0, t0), (1, t1), (5, t5), (6, t5), (7, t0), (8, x1), (9, x2), (10, x2), (11, x3), (12, x4), (13, x5), (14, x6), (15, x7), (16, x8), (17, x9), (20, t5), (21, t0), (22, x11), (23, x12), (24, x12), (25, x13), (26, x14), (27, x15), (28, x16), (29, x17), (30, x18), (31, x19)]) H fun ts19 H => some ((getT ts19 4), H)) t0 t1 t5 x1 x2 x3 x4 x5 x6 x7 x8 x9 x11 x12 x13 x14 x15 x16 x17 x18 x19 H c)) t0 t1 t5 x1 x2 x3 x4 x5 x6 x7 x8 x9 x11 x12 x13 x14 x15 H c) t0 t1 t5 x1 x2 x3 x4 x5 x6 x7 x8 x9 x11 H c) t0 t1 t5 x1 x2 x3 x4 x5 x6 x7 x8 x9 H c)) t0 t1 t5 x1 x2 x3 x4 x5 H c r2) t0 t1 t5 x1 H c r2
def j184_2 (c : Cx) : Nat → Nat → F3 := recN (fun _ _ _ _ _ => none) fun ih n2 => b184_2 c (ih n2) n2
theorem o184_2 (c : Cx) : d184_2 c = j184_2 c := by
  unfold j184_2
  refine recN_ok (by kernel_rfl) fun m => funext fun n2 => ?_
  funext t0 t1 t5 H
  refine Eq.trans (jnK_eq 70368744177699 _ _ H _) ?_
  kernel_rfl
def b184_1 (c : Cx) (j2 : Nat → Nat → F3) (t0 t1 : V) (H : List Blk) : X := j2 c.n H.length t0 t1 (ci 0) H
def j184_1 (c : Cx) : F2 := b184_1 c (j184_2 c)
theorem o184_1 (c : Cx) : d184_1 c = j184_1 c := by
  unfold j184_1; rw [← o184_2]
  funext t0 t1 H
  refine Eq.trans (stepK_jn c.pc c.ic c.n _ H _ 35184372088835 c184_1) ?_
  kernel_rfl
def b184_0 (c : Cx) (j1 : F2) (t0 t1 : V) (H : List Blk) : X := j1 t0 t1 H
def s184 (c : Cx) (args : List V) (H : List Blk) : X := argsK 2 args (b184_0 c (j184_1 c) (getT args 0) (getT args 1) H)
theorem e184 (pc ic n args H) : runK pc ic n c184 args H = s184 ⟨pc, ic, n⟩ args H := by
  unfold s184; rw [← o184_1]
  kernel_rfl
def L184 : Leaf := ⟨c184, fun pc ic n => s184 ⟨pc, ic, n⟩, e184⟩
theorem kk184 : chkFn Go.Proofs.Tryz.prog ET 184 c184 = true := by kernel_rfl

def c185_2 : C := (.seq (.seq (.reg 0 none [m 7 (.t 6) 0, o 8 (.fld 7) [.t 2] 1, o 9 (.load false 1) [.t 8] 2, o 10 (.len 1) [.t 9] 3, o 11 (.bin .lss) [.t 7, .t 10] 4]) (.cond (.t 11) .skip (.exit 0))) (.seq (.blk 1 (.seq (.reg 0 none [o 14 (.fld 7) [.t 2] 0, o 15 (.load false 1) [.t 14] 1, m 16 (.t 6) 2, o 17 (.ix 2) [.t 15, .t 16] 3, o 18 (.fld 0) [.t 17] 4, o 19 (.load false 1) [.t 18] 5, m 20 (.t 1) 6, o 21 (.bin .neq) [.t 19, .t 20] 7]) (.cond (.t 21) (.reg 1 none [m 22 (.t 5) 0, o 23 (.fld 7) [.t 2] 1, o 24 (.load false 1) [.t 23] 2, m 25 (.t 6) 3, o 26 (.ix 2) [.t 24, .t 25] 4, o 27 (.load true 2) [.t 26] 5, o 28 (.bsl 2 z5 1 [0]) [.t 27] 6, o 29 (.app 0 2 24) [.t 22, .t 28] 7, m 5 (.t 29) 8]) .skip))) (.reg 0 none [m 12 (.t 6) 0, o 13 (.bin .add) [.t 12, .c (ci 1)] 1, m 6 (.t 13) 2])))
def c185_s1 : C := (.seq (.reg 0 none [m 30 (.t 5) 0, o 31 (.fld 7) [.t 2] 1, ⟨none, .store 1, [.t 31, .t 30], none, 0, 2⟩]) (.seq (.reg 0 none [o 32 (.load true 8) [.t 2] 0, ⟨none, .store 8, [.t 4, .t 32], none, 0, 1⟩]) .ret))
def c185_1 : C := (.seq (.reg 2 none [o 2 (.box 0) [.t 0] 0, o 4 (.alloc 1 z1) [] 1]) (.seq (.reg 0 none [m 5 (.c .nilS) 0]) (.seq (.seq (.reg 0 none [m 6 (.c (ci 0)) 0]) (.blk 0 (.loop 17179869302 false c185_2))) c185_s1)))
def c185 : Fn := { fid := 185, np := 2, ntmps := 33, body := (.jn 8589934595 c185_1), res := [.cell 4 true 8] }
def d185_1 (c : Cx) (t0 t1 : V) (H : List Blk) : X := stepK c.pc c.ic c.n (.jn 8589934595 c185_1) (cn 0 33 [(0, t0), (1, t1)]) H (kTop c185.res)
def k185_1 (c : Cx) : KT := thenK (stepK c.pc c.ic c.n c185_s1) (kTop c185.res)
def k185_2 (c : Cx) : KT := blkK 0 (k185_1 c)
def d185_2 (c : Cx) (m n2 : Nat) (t1 t2 t4 t5 t6 : V) (H : List Blk) : X := jnK (loopsK (stepK c.pc c.ic c.n c185_2) 17179869302 false n2 m) (cn 0 33 [(1, t1), (2, t2), (4, t4), (5, t5), (6, t6)]) H (k185_2 c) 17179869302
def b185_2 (c : Cx) (r2 : F5) (n2 : Nat) (t1 t2 t4 t5 t6 : V) (H : List Blk) : X := p (aFld 7 t2) fun x1 => (aLoad false 1 x1).go H fun x2 H => (aLen 1 x2).go H fun x3 H => p (aBin .lss t6 x3) fun x4 => condK x4 ((fun (t1 t2 t4 t5 t6 : V) (H : L) (r2 : F5) => p (aFld 7 t2) fun x5 => (aLoad false 1 x5).go H fun x6 H => (fun (t1 t2 t4 t5 t6 x6 : V) (H : L) (r2 : F5) => p (aIx 2 x6 t6) fun x7 => p (aFld 0 x7) fun x8 => (aLoad false 1 x8).go H fun x9 H => p (aBin .neq x9 t1) fun x10 => condK x10 ((fun (t1 t2 t4 t5 t6 : V) (H : L) (r2 : F5) => newK 1 H fun q H => p (aFld 7 t2) fun x11 => (aLoad false 1 x11).go H fun x12 H => (fun (t1 t2 t4 t5 t6 x12 : V) (q : Nat) (H : L) (r2 : F5) => p (aIx 2 x12 t6) fun x13 => (aLoad true 2 x13).go H fun x14 H => p (aBsl 2 z5 1 [0] [x14]) fun x15 => (aApp (q + 0) 2 24 t5 x15).go H fun x16 H => p (aBin .add t6 (ci 1)) fun x17 => r2 t1 t2 t4 x16 x17 H) t1 t2 t4 t5 t6 x12 q H r2) t1 t2 t4 t5 t6 H r2) (p (aBin .add t6 (ci 1)) fun x18 => r2 t1 t2 t4 t5 x18 H)) t1 t2 t4 t5 t6 x6 H r2) t1 t2 t4 t5 t6 H r2) ((fun (t2 t4 t5 : V) (H : L) => p (aFld 7 t2) fun x19 => (aStore 1 x19 t5).go H fun _ H => (aLoad true 8 t2).go H fun x20 H => (aStore 8 t4 x20).go H fun _ H => bnd (loadV true 8 t4 H) fun x21 => some (x21, H)) t2 t4 t5 H)
def j185_2 (c : Cx) : Nat → Nat → F5 := recN (fun _ _ _ _ _ _ _ => none) fun ih n2 => b185_2 c (ih n2) n2
theorem o185_2 (c : Cx) : d185_2 c = j185_2 c := by
  unfold j185_2
  refine recN_ok (by kernel_rfl) fun m => funext fun n2 => ?_
  funext t1 t2 t4 t5 t6 H
  refine Eq.trans (jnK_eq 17179869302 _ _ H _) ?_
  kernel_rfl
def b185_1 (c : Cx) (j2 : Nat → Nat → F5) (t0 t1 : V) (H : List Blk) : X := newK 2 H fun q H => (aBox (q + 0) t0).go H fun x1 H => (aAlloc (q + 1) z1).go H fun x2 H => j2 c.n H.length t1 x1 x2 .nilS (ci 0) H
def j185_1 (c : Cx) : F2 := b185_1 c (j185_2 c)
theorem o185_1 (c : Cx) : d185_1 c = j185_1 c := by
  unfold j185_1; rw [← o185_2]
  funext t0 t1 H
  refine Eq.trans (stepK_jn c.pc c.ic c.n _ H _ 8589934595 c185_1) ?_
  kernel_rfl
def b185_0 (c : Cx) (j1 : F2) (t0 t1 : V) (H : List Blk) : X := j1 t0 t1 H
def s185 (c : Cx) (args : List V) (H : List Blk) : X := argsK 2 args (b185_0 c (j185_1 c) (getT args 0) (getT args 1) H)
theorem e185 (pc ic n args H) : runK pc ic n c185 args H = s185 ⟨pc, ic, n⟩ args H := by
  unfold s185; rw [← o185_1]
  kernel_rfl
def L185 : Leaf := ⟨c185, fun pc ic n => s185 ⟨pc, ic, n⟩, e185⟩
theorem kk185 : chkFn Go.Proofs.Tryz.prog ET 185 c185 = true := by kernel_rfl

def c196_1 : C := (.seq (.reg 3 none [o 2 (.box 0) [.t 0] 0, o 3 (.box 1) [.t 1] 1, o 4 (.alloc 2 z1) [] 2]) (.seq (.reg 0 none [o 8 (.fld 2) [.t 2] 0, o 9 (.load false 1) [.t 8] 1, o 10 (.fld 0) [.t 3] 2, o 11 (.load false 1) [.t 10] 3, o 12 (.ix 4) [.t 9, .t 11] 4, o 13 (.fld 3) [.t 12] 5, o 14 (.load false 1) [.t 13] 6, m 5 (.t 14) 7]) (.seq (.reg 0 none [m 16 (.t 5) 0, o 17 (.fld 1) [.t 3] 1, o 18 (.load false 1) [.t 17] 2, o 19 (.icall 254) [.t 16, .t 18, .c (.fn 273 [])] 3, m 15 (.t 19) 4, o 20 (.ext 0) [.t 15] 5, o 21 (.ext 1) [.t 15] 6, m 6 (.t 20) 7, m 7 (.t 21) 8]) (.seq (.seq (.reg 0 none [m 22 (.t 7) 0, o 23 (.un .not) [.t 22] 1]) (.cond (.t 23) (.seq (.reg 0 none [o 24 (.build z1 []) [] 0, ⟨none, .store 8, [.t 4, .t 24], none, 0, 1⟩]) .ret) .skip)) (.seq (.reg 0 none [m 25 (.t 5) 0, m 26 (.t 6) 1, o 27 (.ix 8) [.t 25, .t 26] 2, o 28 (.load true 8) [.t 27] 3, ⟨none, .store 8, [.t 4, .t 28], none, 0, 4⟩]) .ret)))))
def c196 : Fn := { fid := 196, np := 2, ntmps := 29, body := (.jn 536870915 c196_1), res := [.cell 4 true 8] }
def d196_1 (c : Cx) (t0 t1 : V) (H : List Blk) : X := stepK c.pc c.ic c.n (.jn 536870915 c196_1) (cn 0 29 [(0, t0), (1, t1)]) H (kTop c196.res)
def b196_1 (c : Cx) (t0 t1 : V) (H : List Blk) : X := newK 3 H fun q H => (aBox (q + 0) t0).go H fun x1 H => (aBox (q + 1) t1).go H fun x2 H => (aAlloc (q + 2) z1).go H fun x3 H => p (aFld 2 x1) fun x4 => (aLoad false 1 x4).go H fun x5 H => p (aFld 0 x2) fun x6 => (fun (x2 x3 x5 x6 : V) (H : L) (c : Cx) => (aLoad false 1 x6).go H fun x7 H => p (aIx 4 x5 x7) fun x8 => p (aFld 3 x8) fun x9 => (aLoad false 1 x9).go H fun x10 H => p (aFld 1 x2) fun x11 => (fun (x3 x10 x11 : V) (H : L) (c : Cx) => (aLoad false 1 x11).go H fun x12 H => icK c 254 [x10, x12, (.fn 273 [])] H fun x13 H => p (aExt 0 x13) fun x14 => p (aExt 1 x13) fun x15 => p (aUn .not x15) fun x16 => condK x16 (p (aBuild z1 [] []) fun x17 => (aStore 8 x3 x17).go H fun _ H => bnd (loadV true 8 x3 H) fun x18 => some (x18, H)) (p (aIx 8 x10 x14) fun x19 => (aLoad true 8 x19).go H fun x20 H => (aStore 8 x3 x20).go H fun _ H => bnd (loadV true 8 x3 H) fun x21 => some (x21, H))) x3 x10 x11 H c) x2 x3 x5 x6 H c
def j196_1 (c : Cx) : F2 := b196_1 c
theorem o196_1 (c : Cx) : d196_1 c = j196_1 c := by
  unfold j196_1
  funext t0 t1 H
  refine Eq.trans (stepK_jn c.pc c.ic c.n _ H _ 536870915 c196_1) ?_
  kernel_rfl
def b196_0 (c : Cx) (j1 : F2) (t0 t1 : V) (H : List Blk) : X := j1 t0 t1 H
def s196 (c : Cx) (args : List V) (H : List Blk) : X := argsK 2 args (b196_0 c (j196_1 c) (getT args 0) (getT args 1) H)
theorem e196 (pc ic n args H) : runK pc ic n c196 args H = s196 ⟨pc, ic, n⟩ args H := by
  unfold s196; rw [← o196_1]
  kernel_rfl
def L196 : Leaf := ⟨c196, fun pc ic n => s196 ⟨pc, ic, n⟩, e196⟩
theorem kk196 : chkFn Go.Proofs.Tryz.prog ET 196 c196 = true := by kernel_rfl

def c197 : Fn := { fid := 197, np := 1, ntmps := 11, body := (.seq (.reg 0 none [m 3 (.t 0) 0, o 4 (.len 1) [.t 3] 1, m 2 (.t 4) 2]) (.reg 0 none [m 5 (.t 0) 0, m 6 (.t 2) 1, m 7 (.t 2) 2, o 8 (.toInt .u64) [.t 7] 3, o 9 (.call 275) [.t 8] 4, o 10 (.icall 274) [.t 5, .c (ci 0), .t 6, .t 9] 5])), res := [] }
def b197_0 (c : Cx) (t0 : V) (H : List Blk) : X := (aLen 1 t0).go H fun x1 H => p (aToInt .u64 x1) fun x2 => p (aCall c.pc 275 [x2]) fun x3 => icK c 274 [t0, (ci 0), x1, x3] H fun x4 H => some (.tup [], H)
def s197 (c : Cx) (args : List V) (H : List Blk) : X := argsK 1 args (b197_0 c (getT args 0) H)
theorem e197 (pc ic n args H) : runK pc ic n c197 args H = s197 ⟨pc, ic, n⟩ args H := by
  unfold s197
  kernel_rfl
def L197 : Leaf := ⟨c197, fun pc ic n => s197 ⟨pc, ic, n⟩, e197⟩
theorem kk197 : chkFn Go.Proofs.Tryz.prog ET 197 c197 = true := by kernel_rfl

def c198_3 : C := (.seq (.seq (.reg 0 none [m 29 (.t 5) 0, m 30 (.t 4) 1, o 31 (.len 1) [.t 30] 2, o 32 (.bin .lss) [.t 29, .t 31] 3]) (.cond (.t 32) .skip (.exit 2))) (.seq (.blk 3 (.seq (.reg 0 (some ⟨true, [], 61⟩) [m 35 (.t 4) 0, m 36 (.t 5) 1, ⟨some 37, .ix 1, [.t 35, .t 36], none, 3, 2⟩, ⟨some 38, .load false 1, [.t 37], none, 7, 3⟩, m 39 (.t 4) 4, m 40 (.t 5) 5, ⟨some 41, .bin .sub, [.t 40, .c (ci 1)], none, 32, 6⟩, ⟨some 42, .ix 1, [.t 39, .t 41], none, 112, 7⟩, ⟨some 43, .load false 1, [.t 42], none, 240, 8⟩, ⟨some 44, .bin .neq, [.t 38, .t 43], none, 511, 9⟩]) (.cond (.t 44) (.seq (.reg 0 none [m 45 (.t 0) 0, m 46 (.t 3) 1, m 47 (.t 4) 2, m 48 (.t 5) 3, o 49 (.ix 1) [.t 47, .t 48] 4, o 50 (.load false 1) [.t 49] 5, o 51 (.ix 1) [.t 45, .t 46] 6, ⟨none, .store 1, [.t 51, .t 50], none, 0, 7⟩]) (.reg 0 none [m 52 (.t 3) 0, o 53 (.bin .add) [.t 52, .c (ci 1)] 1, m 3 (.t 53) 2])) .skip))) (.reg 0 none [m 33 (.t 5) 0, o 34 (.bin .add) [.t 33, .c (ci 1)] 1, m 5 (.t 34) 2])))
def c198_s1 : C := (.seq (.reg 0 none [m 54 (.t 0) 0, m 55 (.t 3) 1, o 56 (.sub 1 true false false) [.t 54, .t 55] 2, ⟨none, .clear 1 [(.d (.str []))], [.t 56], none, 0, 3⟩]) (.seq (.reg 0 none [m 57 (.t 0) 0, m 58 (.t 3) 1, o 59 (.sub 1 false true false) [.t 57, .t 58] 2, m 2 (.t 59) 3]) .ret))
def c198_s2 : C := (.reg 0 none [m 14 (.t 3) 0, o 15 (.bin .add) [.t 14, .c (ci 1)] 1, m 3 (.t 15) 2])
def c198_2 : C := (.seq (.seq (.reg 0 none [m 10 (.t 3) 0, m 11 (.t 0) 1, o 12 (.len 1) [.t 11] 2, o 13 (.bin .lss) [.t 10, .t 12] 3]) (.cond (.t 13) .skip (.exit 0))) (.seq (.blk 1 (.seq (.reg 0 (some ⟨true, [], 61⟩) [m 16 (.t 0) 0, m 17 (.t 3) 1, ⟨some 18, .ix 1, [.t 16, .t 17], none, 3, 2⟩, ⟨some 19, .load false 1, [.t 18], none, 7, 3⟩, m 20 (.t 0) 4, m 21 (.t 3) 5, ⟨some 22, .bin .sub, [.t 21, .c (ci 1)], none, 32, 6⟩, ⟨some 23, .ix 1, [.t 20, .t 22], none, 112, 7⟩, ⟨some 24, .load false 1, [.t 23], none, 240, 8⟩, ⟨some 25, .bin .eql, [.t 19, .t 24], none, 511, 9⟩]) (.cond (.t 25) (.seq (.reg 0 none [m 26 (.t 0) 0, m 27 (.t 3) 1, o 28 (.sub 1 true false false) [.t 26, .t 27] 2, m 4 (.t 28) 3]) (.seq (.seq (.reg 0 none [m 5 (.c (ci 1)) 0]) (.blk 2 (.loop 6917529027641081913 false c198_3))) c198_s1)) .skip))) c198_s2))
def c198_s3 : C := (.seq (.reg 0 none [m 60 (.t 0) 0, m 2 (.t 60) 1]) .ret)
def c198_1 : C := (.seq (.reg 0 none [m 2 (.c .nilS) 0]) (.seq (.seq (.reg 0 none [m 6 (.t 0) 0, o 7 (.len 1) [.t 6] 1, o 8 (.bin .lss) [.t 7, .c (ci 2)] 2]) (.cond (.t 8) (.seq (.reg 0 none [m 9 (.t 0) 0, m 2 (.t 9) 1]) .ret) .skip)) (.seq (.seq (.reg 0 none [m 3 (.c (ci 1)) 0]) (.blk 0 (.loop 4611686018427387913 false c198_2))) c198_s3)))
def c198 : Fn := { fid := 198, np := 1, ntmps := 61, body := (.jn 2305843009213693953 c198_1), res := [.tmp 2] }
def d198_1 (c : Cx) (t0 : V) (H : List Blk) : X := stepK c.pc c.ic c.n (.jn 2305843009213693953 c198_1) (cn 0 61 [(0, t0)]) H (kTop c198.res)
def k198_1 (c : Cx) : KT := thenK (stepK c.pc c.ic c.n c198_s3) (kTop c198.res)
def k198_2 (c : Cx) : KT := blkK 0 (k198_1 c)
def d198_2 (c : Cx) (m n2 : Nat) (t0 t3 : V) (H : List Blk) : X := jnK (loopsK (stepK c.pc c.ic c.n c198_2) 4611686018427387913 false n2 m) (cn 0 61 [(0, t0), (3, t3)]) H (k198_2 c) 4611686018427387913
def k198_3 (c : Cx) (m2 n2 : Nat) : KT := thenK (fun ts H k => jnK (loopsK (stepK c.pc c.ic c.n c198_2) 4611686018427387913 false n2 m2) (maskT 4611686018427387913 0 ts) H k 4611686018427387913) (k198_2 c)
def k198_4 (c : Cx) (m2 n2 : Nat) : KT := thenK (stepK c.pc c.ic c.n c198_s2) (k198_3 c m2 n2)
def k198_5 (c : Cx) (m2 n2 : Nat) : KT := blkK 1 (k198_4 c m2 n2)
def k198_6 (c : Cx) (m2 n2 : Nat) : KT := thenK (stepK c.pc c.ic c.n c198_s1) (k198_5 c m2 n2)
def k198_7 (c : Cx) (m2 n2 : Nat) : KT := blkK 2 (k198_6 c m2 n2)
def d198_3 (c : Cx) (m2 n2 : Nat) (m n3 : Nat) (t0 t3 t4 t5 : V) (H : List Blk) : X := jnK (loopsK (stepK c.pc c.ic c.n c198_3) 6917529027641081913 false n3 m) (cn 0 61 [(0, t0), (3, t3), (4, t4), (5, t5)]) H (k198_7 c m2 n2) 6917529027641081913
def b198_3 (c : Cx) (r3 : F4) (n3 : Nat) (t0 t3 t4 t5 : V) (H : List Blk) : X := (aLen 1 t4).go H fun x1 H => p (aBin .lss t5 x1) fun x2 => condK x2 ((fun (t0 t3 t4 t5 : V) (H : L) (r3 : F4) => p (aIx 1 t4 t5) fun x3 => (aLoad false 1 x3).go H fun x4 H => (fun (t0 t3 t4 t5 x4 : V) (H : L) (r3 : F4) => p (aBin .sub t5 (ci 1)) fun x5 => p (aIx 1 t4 x5) fun x6 => (aLoad false 1 x6).go H fun x7 H => p (aBin .neq x4 x7) fun x8 => condK x8 ((fun (t0 t3 t4 t5 : V) (H : L) (r3 : F4) => p (aIx 1 t4 t5) fun x9 => (aLoad false 1 x9).go H fun x10 H => p (aIx 1 t0 t3) fun x11 => (aStore 1 x11 x10).go H fun _ H => p (aBin .add t3 (ci 1)) fun x12 => p (aBin .add t5 (ci 1)) fun x13 => r3 t0 x12 t4 x13 H) t0 t3 t4 t5 H r3) (p (aBin .add t5 (ci 1)) fun x14 => r3 t0 t3 t4 x14 H)) t0 t3 t4 t5 x4 H r3) t0 t3 t4 t5 H r3) ((fun (t0 t3 : V) (H : L) => (aSub 1 true false false t0 [t3]).go H fun x15 H => (aClear 1 [(.d (.str []))] x15).go H fun _ H => (aSub 1 false true false t0 [t3]).go H fun x16 H => some (x16, H)) t0 t3 H)
def j198_3 (c : Cx) (r2 : F2) : Nat → Nat → F4 := recN (fun _ _ _ _ _ _ => none) fun ih n3 => b198_3 c (ih n3) n3
theorem o198_3 (c : Cx) (m2 n2 : Nat) : d198_3 c m2 n2 = j198_3 c (d198_2 c m2 n2) := by
  unfold j198_3
  refine recN_ok (by kernel_rfl) fun m => funext fun n3 => ?_
  funext t0 t3 t4 t5 H
  refine Eq.trans (jnK_eq 6917529027641081913 _ _ H _) ?_
  kernel_rfl
def b198_2 (c : Cx) (r2 : F2) (j3 : Nat → Nat → F4) (n2 : Nat) (t0 t3 : V) (H : List Blk) : X := (aLen 1 t0).go H fun x1 H => p (aBin .lss t3 x1) fun x2 => condK x2 ((fun (t0 t3 : V) (H : L) (c : Cx) (j3 : Nat → Nat → F4) (r2 : F2) => p (aIx 1 t0 t3) fun x3 => (aLoad false 1 x3).go H fun x4 H => (fun (t0 t3 x4 : V) (H : L) (c : Cx) (j3 : Nat → Nat → F4) (r2 : F2) => p (aBin .sub t3 (ci 1)) fun x5 => p (aIx 1 t0 x5) fun x6 => (aLoad false 1 x6).go H fun x7 H => p (aBin .eql x4 x7) fun x8 => condK x8 ((aSub 1 true false false t0 [t3]).go H fun x9 H => j3 c.n H.length t0 t3 x9 (ci 1) H) (p (aBin .add t3 (ci 1)) fun x10 => r2 t0 x10 H)) t0 t3 x4 H c j3 r2) t0 t3 H c j3 r2) (some (t0, H))
def j198_2 (c : Cx) : Nat → Nat → F2 := recN (fun _ _ _ _ => none) fun ih n2 => b198_2 c (ih n2) (j198_3 c (ih n2)) n2
theorem o198_2 (c : Cx) : d198_2 c = j198_2 c := by
  unfold j198_2
  refine recN_ok (by kernel_rfl) fun m => funext fun n2 => ?_
  simp only [← o198_3]
  funext t0 t3 H
  refine Eq.trans (jnK_eq 4611686018427387913 _ _ H _) ?_
  kernel_rfl
def b198_1 (c : Cx) (j2 : Nat → Nat → F2) (t0 : V) (H : List Blk) : X := (aLen 1 t0).go H fun x1 H => p (aBin .lss x1 (ci 2)) fun x2 => condK x2 (some (t0, H)) (j2 c.n H.length t0 (ci 1) H)
def j198_1 (c : Cx) : F1 := b198_1 c (j198_2 c)
theorem o198_1 (c : Cx) : d198_1 c = j198_1 c := by
  unfold j198_1; rw [← o198_2]
  funext t0 H
  refine Eq.trans (stepK_jn c.pc c.ic c.n _ H _ 2305843009213693953 c198_1) ?_
  kernel_rfl
def b198_0 (c : Cx) (j1 : F1) (t0 : V) (H : List Blk) : X := j1 t0 H
def s198 (c : Cx) (args : List V) (H : List Blk) : X := argsK 1 args (b198_0 c (j198_1 c) (getT args 0) H)
theorem e198 (pc ic n args H) : runK pc ic n c198 args H = s198 ⟨pc, ic, n⟩ args H := by
  unfold s198; rw [← o198_1]
  kernel_rfl
def L198 : Leaf := ⟨c198, fun pc ic n => s198 ⟨pc, ic, n⟩, e198⟩
theorem kk198 : chkFn Go.Proofs.Tryz.prog ET 198 c198 = true := by kernel_rfl

def c199_2 : C := (.seq (.seq (.reg 0 none [m 16 (.t 6) 0, m 17 (.t 0) 1, o 18 (.len 1) [.t 17] 2, o 19 (.bin .lss) [.t 16, .t 18] 3]) (.cond (.t 19) .skip (.exit 0))) (.seq (.blk 1 (.seq (.reg 0 none [m 22 (.t 0) 0, m 23 (.t 6) 1, o 24 (.ix 1) [.t 22, .t 23] 2, o 25 (.load false 1) [.t 24] 3, m 7 (.t 25) 4]) (.seq (.reg 0 none [m 26 (.t 1) 0, m 27 (.t 7) 1, o 28 .dcall [.t 26, .t 27] 2, o 29 (.un .not) [.t 28] 3]) (.cond (.t 29) (.seq (.reg 0 none [m 30 (.t 0) 0, m 31 (.t 5) 1, m 32 (.t 7) 2, o 33 (.ix 1) [.t 30, .t 31] 3, ⟨none, .store 1, [.t 33, .t 32], none, 0, 4⟩]) (.reg 0 none [m 34 (.t 5) 0, o 35 (.bin .add) [.t 34, .c (ci 1)] 1, m 5 (.t 35) 2])) .skip)))) (.reg 0 none [m 20 (.t 6) 0, o 21 (.bin .add) [.t 20, .c (ci 1)] 1, m 6 (.t 21) 2])))
def c199_s1 : C := (.seq (.reg 0 none [m 36 (.t 0) 0, m 37 (.t 5) 1, o 38 (.sub 1 true false false) [.t 36, .t 37] 2, ⟨none, .clear 1 [(.d (.str []))], [.t 38], none, 0, 3⟩]) (.seq (.reg 0 none [m 39 (.t 0) 0, m 40 (.t 5) 1, o 41 (.sub 1 false true false) [.t 39, .t 40] 2, m 4 (.t 41) 3]) .ret))
def c199_1 : C := (.seq (.reg 0 none [m 4 (.c .nilS) 0]) (.seq (.reg 0 none [m 8 (.t 0) 0, m 9 (.t 1) 1, o 10 (.icall 10276) [.t 8, .t 9] 2, m 5 (.t 10) 3]) (.seq (.seq (.reg 0 none [m 11 (.t 5) 0, o 12 (.bin .eql) [.t 11, .c (ci (-1))] 1]) (.cond (.t 12) (.seq (.reg 0 none [m 13 (.t 0) 0, m 4 (.t 13) 1]) .ret) .skip)) (.seq (.seq (.reg 0 none [m 14 (.t 5) 0, o 15 (.bin .add) [.t 14, .c (ci 1)] 1, m 6 (.t 15) 2]) (.blk 0 (.loop 8796093022307 true c199_2))) c199_s1))))
def c199 : Fn := { fid := 199, np := 2, ntmps := 42, body := (.jn 4398046511107 c199_1), res := [.tmp 4] }
def d199_1 (c : Cx) (t0 t1 : V) (H : List Blk) : X := stepK c.pc c.ic c.n (.jn 4398046511107 c199_1) (cn 0 42 [(0, t0), (1, t1)]) H (kTop c199.res)
def k199_1 (c : Cx) : KT := thenK (stepK c.pc c.ic c.n c199_s1) (kTop c199.res)
def k199_2 (c : Cx) : KT := blkK 0 (k199_1 c)
def d199_2 (c : Cx) (m n2 : Nat) (t0 t1 t5 t6 : V) (H : List Blk) : X := jnK (loopsK (stepK c.pc c.ic c.n c199_2) 8796093022307 true n2 m) (cn 0 42 [(0, t0), (1, t1), (5, t5), (6, t6)]) H (k199_2 c) 8796093022307
def b199_2 (c : Cx) (r2 : F4) (n2 : Nat) (t0 t1 t5 t6 : V) (H : List Blk) : X := bnd (trimF true n2 [t0, t1, t5, t6] H) fun H => (aLen 1 t0).go H fun x1 H => p (aBin .lss t6 x1) fun x2 => condK x2 ((fun (t0 t1 t5 t6 : V) (H : L) (c : Cx) (r2 : F4) => p (aIx 1 t0 t6) fun x3 => (aLoad false 1 x3).go H fun x4 H => callK c.ic [t1, x4] H fun x5 H => p (aUn .not x5) fun x6 => condK x6 (p (aIx 1 t0 t5) fun x7 => (aStore 1 x7 x4).go H fun _ H => p (aBin .add t5 (ci 1)) fun x8 => p (aBin .add t6 (ci 1)) fun x9 => r2 t0 t1 x8 x9 H) (p (aBin .add t6 (ci 1)) fun x10 => r2 t0 t1 t5 x10 H)) t0 t1 t5 t6 H c r2) ((fun (t0 t5 : V) (H : L) => (aSub 1 true false false t0 [t5]).go H fun x11 H => (aClear 1 [(.d (.str []))] x11).go H fun _ H => (aSub 1 false true false t0 [t5]).go H fun x12 H => some (x12, H)) t0 t5 H)
def j199_2 (c : Cx) : Nat → Nat → F4 := recN (fun _ _ _ _ _ _ => none) fun ih n2 => b199_2 c (ih n2) n2
theorem o199_2 (c : Cx) : d199_2 c = j199_2 c := by
  unfold j199_2
  refine recN_ok (by kernel_rfl) fun m => funext fun n2 => ?_
  funext t0 t1 t5 t6 H
  refine Eq.trans (jnK_eq 8796093022307 _ _ H _) ?_
  kernel_rfl
def b199_1 (c : Cx) (j2 : Nat → Nat → F4) (t0 t1 : V) (H : List Blk) : X := icK c 10276 [t0, t1] H fun x1 H => p (aBin .eql x1 (ci (-1))) fun x2 => condK x2 (some (t0, H)) (p (aBin .add x1 (ci 1)) fun x3 => j2 c.n H.length t0 t1 x1 x3 H)
def j199_1 (c : Cx) : F2 := b199_1 c (j199_2 c)
theorem o199_1 (c : Cx) : d199_1 c = j199_1 c := by
  unfold j199_1; rw [← o199_2]
  funext t0 t1 H
  refine Eq.trans (stepK_jn c.pc c.ic c.n _ H _ 4398046511107 c199_1) ?_
  kernel_rfl
def b199_0 (c : Cx) (j1 : F2) (t0 t1 : V) (H : List Blk) : X := j1 t0 t1 H
def s199 (c : Cx) (args : List V) (H : List Blk) : X := argsK 2 args (b199_0 c (j199_1 c) (getT args 0) (getT args 1) H)
theorem e199 (pc ic n args H) : runK pc ic n c199 args H = s199 ⟨pc, ic, n⟩ args H := by
  unfold s199; rw [← o199_1]
  kernel_rfl
def L199 : Leaf := ⟨c199, fun pc ic n => s199 ⟨pc, ic, n⟩, e199⟩
theorem kk199 : chkFn Go.Proofs.Tryz.prog ET 199 c199 = true := by kernel_rfl

def c200 : Fn := { fid := 200, np := 3, ntmps := 15, body := (.seq (.reg 0 none [m 4 (.c cf) 0]) (.seq (.reg 0 none [m 5 (.t 0) 0, o 6 (.call 201) [.t 5] 1, m 7 (.t 6) 2, ⟨some 8, .load true 7, [.t 1], some (7, false), 0, 3⟩, ⟨some 9, .load false 1, [.t 2], some (7, false), 0, 4⟩, ⟨some 10, .mov, [.t 0], some (7, false), 0, 5⟩, ⟨some 11, .call 79, [.t 8, .t 9, .t 10], some (7, false), 0, 6⟩, ⟨some 12, .len 1, [.t 11], some (7, false), 0, 7⟩, ⟨some 13, .bin .eql, [.t 12, .c (ci 0)], some (7, false), 0, 8⟩, o 14 .pick [.t 7, .c ct, .t 13] 9, m 4 (.t 14) 10]) .ret)), res := [.tmp 4] }
def b200_0 (c : Cx) (t0 t1 t2 : V) (H : List Blk) : X := p (aCall c.pc 201 [t0]) fun x1 => guardK x1 false (fun k => (aLoad true 7 t1).go H k) H fun x2 H => guardK x1 false (fun k => (aLoad false 1 t2).go H k) H fun x3 H => guardK x1 false (fun k => (aMov t0).go H k) H fun x4 H => (fun (x1 x2 x3 x4 : V) (H : L) (c : Cx) => guardK x1 false (fun k => (aCall c.pc 79 [x2, x3, x4]).go H k) H fun x5 H => guardK x1 false (fun k => (aLen 1 x5).go H k) H fun x6 H => guardK x1 false (fun k => (aBin .eql x6 (ci 0)).go H k) H fun x7 H => p (aPick x1 ct x7) fun x8 => some (x8, H)) x1 x2 x3 x4 H c
def s200 (c : Cx) (args : List V) (H : List Blk) : X := argsK 3 args (b200_0 c (getT args 0) (getT args 1) (getT args 2) H)
theorem e200 (pc ic n args H) : runK pc ic n c200 args H = s200 ⟨pc, ic, n⟩ args H := by
  unfold s200
  kernel_rfl
def L200 : Leaf := ⟨c200, fun pc ic n => s200 ⟨pc, ic, n⟩, e200⟩
theorem kk200 : chkFn Go.Proofs.Tryz.prog ET 200 c200 = true := by kernel_rfl

def c201 : Fn := { fid := 201, np := 1, ntmps := 14, body := (.seq (.reg 0 none [m 2 (.c cf) 0]) (.seq (.reg 0 none [m 3 (.c (ci 4)) 0]) (.seq (.reg 0 none [m 4 (.t 0) 0, o 5 (.len 0) [.t 4] 1, m 6 (.t 3) 2, o 7 (.bin .geq) [.t 5, .t 6] 3, m 8 (.t 7) 4, ⟨some 9, .mov, [.t 0], some (8, true), 0, 5⟩, ⟨some 10, .mov, [.t 3], some (8, true), 0, 6⟩, ⟨some 11, .subStr false true, [.t 9, .t 10], some (8, true), 0, 7⟩, ⟨some 12, .bin .eql, [.t 11, .c (.d (.str [46, 119, 104, 46]))], some (8, true), 0, 8⟩, o 13 .pick [.t 8, .t 12, .c cf] 9, m 2 (.t 13) 10]) .ret))), res := [.tmp 2] }
def b201_0 (c : Cx) (t0 : V) (H : List Blk) : X := (aLen 0 t0).go H fun x1 H => p (aBin .geq x1 (ci 4)) fun x2 => guardK x2 true (fun k => (aMov t0).go H k) H fun x3 H => (fun (x2 x3 : V) (H : L) => guardK x2 true (fun k => (aMov (ci 4)).go H k) H fun x4 H => guardK x2 true (fun k => (aSubStr false true x3 [x4]).go H k) H fun x5 H => guardK x2 true (fun k => (aBin .eql x5 (.d (.str [46, 119, 104, 46]))).go H k) H fun x6 H => p (aPick x2 x6 cf) fun x7 => some (x7, H)) x2 x3 H
def s201 (c : Cx) (args : List V) (H : List Blk) : X := argsK 1 args (b201_0 c (getT args 0) H)
theorem e201 (pc ic n args H) : runK pc ic n c201 args H = s201 ⟨pc, ic, n⟩ args H := by
  unfold s201
  kernel_rfl
def L201 : Leaf := ⟨c201, fun pc ic n => s201 ⟨pc, ic, n⟩, e201⟩
theorem kk201 : chkFn Go.Proofs.Tryz.prog ET 201 c201 = true := by kernel_rfl

def c203_2 : C := (.seq (.seq (.reg 0 none [m 4 (.t 3) 0, m 5 (.t 0) 1, o 6 (.len 0) [.t 5] 2, o 7 (.bin .lss) [.t 4, .t 6] 3]) (.cond (.t 7) .skip (.exit 0))) (.seq (.blk 1 (.seq (.reg 0 none [m 10 (.t 0) 0, m 11 (.t 3) 1, o 12 .ixs [.t 10, .t 11] 2, o 13 (.bin .eql) [.t 12, .c (.d (.int .u8 0))] 3]) (.cond (.t 13) (.seq (.reg 0 none [m 2 (.c ct) 0]) .ret) .skip))) (.reg 0 none [m 8 (.t 3) 0, o 9 (.bin .add) [.t 8, .c (ci 1)] 1, m 3 (.t 9) 2])))
def c203_s1 : C := (.seq (.reg 0 none [m 2 (.c cf) 0]) .ret)
def c203_1 : C := (.seq (.reg 0 none [m 2 (.c cf) 0]) (.seq (.seq (.reg 0 none [m 3 (.c (ci 0)) 0]) (.blk 0 (.loop 32777 false c203_2))) c203_s1))
def c203 : Fn := { fid := 203, np := 1, ntmps := 14, body := (.jn 16385 c203_1), res := [.tmp 2] }
def d203_1 (c : Cx) (t0 : V) (H : List Blk) : X := stepK c.pc c.ic c.n (.jn 16385 c203_1) (cn 0 14 [(0, t0)]) H (kTop c203.res)
def k203_1 (c : Cx) : KT := thenK (stepK c.pc c.ic c.n c203_s1) (kTop c203.res)
def k203_2 (c : Cx) : KT := blkK 0 (k203_1 c)
def d203_2 (c : Cx) (m n2 : Nat) (t0 t3 : V) (H : List Blk) : X := jnK (loopsK (stepK c.pc c.ic c.n c203_2) 32777 false n2 m) (cn 0 14 [(0, t0), (3, t3)]) H (k203_2 c) 32777
def b203_2 (c : Cx) (r2 : F2) (n2 : Nat) (t0 t3 : V) (H : List Blk) : X := (aLen 0 t0).go H fun x1 H => p (aBin .lss t3 x1) fun x2 => condK x2 (p (aIxs t0 t3) fun x3 => p (aBin .eql x3 (.d (.int .u8 0))) fun x4 => condK x4 (some (ct, H)) (p (aBin .add t3 (ci 1)) fun x5 => r2 t0 x5 H)) (some (cf, H))
def j203_2 (c : Cx) : Nat → Nat → F2 := recN (fun _ _ _ _ => none) fun ih n2 => b203_2 c (ih n2) n2
theorem o203_2 (c : Cx) : d203_2 c = j203_2 c := by
  unfold j203_2
  refine recN_ok (by kernel_rfl) fun m => funext fun n2 => ?_
  funext t0 t3 H
  refine Eq.trans (jnK_eq 32777 _ _ H _) ?_
  kernel_rfl
def b203_1 (c : Cx) (j2 : Nat → Nat → F2) (t0 : V) (H : List Blk) : X := j2 c.n H.length t0 (ci 0) H
def j203_1 (c : Cx) : F1 := b203_1 c (j203_2 c)
theorem o203_1 (c : Cx) : d203_1 c = j203_1 c := by
  unfold j203_1; rw [← o203_2]
  funext t0 H
  refine Eq.trans (stepK_jn c.pc c.ic c.n _ H _ 16385 c203_1) ?_
  kernel_rfl
def b203_0 (c : Cx) (j1 : F1) (t0 : V) (H : List Blk) : X := j1 t0 H
def s203 (c : Cx) (args : List V) (H : List Blk) : X := argsK 1 args (b203_0 c (j203_1 c) (getT args 0) H)
theorem e203 (pc ic n args H) : runK pc ic n c203 args H = s203 ⟨pc, ic, n⟩ args H := by
  unfold s203; rw [← o203_1]
  kernel_rfl
def L203 : Leaf := ⟨c203, fun pc ic n => s203 ⟨pc, ic, n⟩, e203⟩
theorem kk203 : chkFn Go.Proofs.Tryz.prog ET 203 c203 = true := by kernel_rfl

def l204_0 : List O := [o 27 (.load true 8) [.t 7] 0, m 28 (.t 1) 1, m 29 (.t 1) 2, ⟨some 30, .len 1, [.t 29], none, 4, 3⟩, ⟨some 31, .bin .sub, [.t 30, .c (ci 1)], none, 12, 4⟩, ⟨some 32, .ix 1, [.t 28, .t 31], none, 30, 5⟩, ⟨some 33, .load false 1, [.t 32], none, 62, 6⟩, ⟨none, .store 8, [.t 4, .t 27], none, 1, 7⟩, ⟨some 5, .mov, [.t 33], none, 255, 8⟩, ⟨some 6, .mov, [.c (ci 0)], none, 511, 9⟩]
def c204_1 : C := (.seq (.seq (.reg 0 none [m 19 (.t 8) 0, o 20 (.bin .neq) [.t 19, .c (ci 0)] 1]) (.cond (.t 20) (.seq (.reg 0 none [o 21 (.build z1 []) [] 0, m 22 (.t 8) 1, ⟨none, .store 8, [.t 4, .t 21], none, 0, 2⟩, m 5 (.c (.d (.str []))) 3, m 6 (.t 22) 4]) .ret) .skip)) (.seq (.seq (.reg 0 none [o 23 (.fld 1) [.t 7] 0, o 24 (.load false 1) [.t 23] 1, o 25 (.bin .neq) [.t 24, .c (ci 2)] 2]) (.cond (.t 25) (.seq (.reg 0 none [o 26 (.build z1 []) [] 0, ⟨none, .store 8, [.t 4, .t 26], none, 0, 1⟩, m 5 (.c (.d (.str []))) 2, m 6 (.c (ci 4)) 3]) .ret) .skip)) (.seq (.reg 0 (some ⟨false, [0, 2, 3, 7, 1, 4, 5, 6, 8, 9], 34⟩) l204_0) .ret)))
def l204_1 : List O := [o 10 (.load true 4) [.t 2] 0, m 11 (.t 1) 1, m 12 (.t 1) 2, ⟨some 13, .len 1, [.t 12], none, 4, 3⟩, ⟨some 14, .bin .sub, [.t 13, .c (ci 1)], none, 12, 4⟩, ⟨some 15, .sub 1 false true false, [.t 11, .t 14], none, 30, 5⟩, ⟨some 16, .call 12, [.t 10, .t 15], none, 63, 6⟩, ⟨some 9, .mov, [.t 16], none, 127, 7⟩, ⟨some 17, .ext 0, [.t 9], none, 255, 8⟩, ⟨some 18, .ext 1, [.t 9], none, 255, 9⟩, o 7 (.alloc 0 z1) [] 10, ⟨none, .store 8, [.t 7, .t 17], none, 1535, 11⟩, ⟨some 8, .mov, [.t 18], none, 4095, 12⟩]
def c204 : Fn := { fid := 204, np := 2, ntmps := 34, body := (.seq (.reg 2 none [o 2 (.box 0) [.t 0] 0, o 4 (.alloc 1 z1) [] 1, m 5 (.c (.d (.str []))) 2, m 6 (.c (ci 0)) 3]) (.seq (.reg 1 (some ⟨false, [0, 1, 2, 3, 4, 5, 6, 7, 8, 10, 11, 9, 12], 34⟩) l204_1) (.jn 17179869586 c204_1))), res := [.cell 4 true 8, .tmp 5, .tmp 6] }
def d204_1 (c : Cx) (t1 t4 t7 t8 : V) (H : List Blk) : X := stepK c.pc c.ic c.n (.jn 17179869586 c204_1) (cn 0 34 [(1, t1), (4, t4), (7, t7), (8, t8)]) H (kTop c204.res)
def b204_1 (c : Cx) (t1 t4 t7 t8 : V) (H : List Blk) : X := p (aBin .neq t8 (ci 0)) fun x1 => condK x1 (p (aBuild z1 [] []) fun x2 => (aStore 8 t4 x2).go H fun _ H => bnd (loadV true 8 t4 H) fun x3 => some (.tup [x3, (.d (.str [])), t8], H)) ((fun (t1 t4 t7 t8 x1 : V) (H : L) (c : Cx) => p (aFld 1 t7) fun x4 => (aLoad false 1 x4).go H fun x5 H => p (aBin .neq x5 (ci 2)) fun x6 => condK x6 (p (aBuild z1 [] []) fun x7 => (aStore 8 t4 x7).go H fun _ H => bnd (loadV true 8 t4 H) fun x8 => some (.tup [x8, (.d (.str [])), (ci 4)], H)) ((fun (t1 t4 t7 t8 x1 x4 x5 x6 : V) (H : L) (c : Cx) => drawnK c.pc c.ic l204_0 0 (cn 0 34 [(1, t1), (4, t4), (7, t7), (8, t8), (19, t8), (20, x1), (23, x4), (24, x5), (25, x6)]) H fun ts8 H => bnd (loadV true 8 (getT ts8 4) H) fun x10 => some (.tup [x10, (getT ts8 5), (getT ts8 6)], H)) t1 t4 t7 t8 x1 x4 x5 x6 H c)) t1 t4 t7 t8 x1 H c)
def j204_1 (c : Cx) : F4 := b204_1 c
theorem o204_1 (c : Cx) : d204_1 c = j204_1 c := by
  unfold j204_1
  funext t1 t4 t7 t8 H
  refine Eq.trans (stepK_jn c.pc c.ic c.n _ H _ 17179869586 c204_1) ?_
  kernel_rfl
def b204_0 (c : Cx) (j1 : F4) (t0 t1 : V) (H : List Blk) : X := newK 2 H fun q H => (aBox (q + 0) t0).go H fun x1 H => (aAlloc (q + 1) z1).go H fun x2 H => newK 1 H fun q H => drawnK c.pc c.ic l204_1 q (cn 0 34 [(0, t0), (1, t1), (2, x1), (4, x2), (5, (.d (.str []))), (6, (ci 0))]) H fun ts2 H => j1 (getT ts2 1) (getT ts2 4) (getT ts2 7) (getT ts2 8) H
def s204 (c : Cx) (args : List V) (H : List Blk) : X := argsK 2 args (b204_0 c (j204_1 c) (getT args 0) (getT args 1) H)
theorem e204 (pc ic n args H) : runK pc ic n c204 args H = s204 ⟨pc, ic, n⟩ args H := by
  unfold s204; rw [← o204_1]
  kernel_rfl
def L204 : Leaf := ⟨c204, fun pc ic n => s204 ⟨pc, ic, n⟩, e204⟩
theorem kk204 : chkFn Go.Proofs.Tryz.prog ET 204 c204 = true := by kernel_rfl

def c216_2 : C := (.seq (.seq (.reg 0 none [m 12 (.t 7) 0, o 13 (.fld 2) [.t 3] 1, o 14 (.load false 1) [.t 13] 2, o 15 (.len 1) [.t 14] 3, o 16 (.bin .lss) [.t 12, .t 15] 4, m 17 (.t 16) 5, ⟨some 18, .fld 2, [.t 3], some (17, true), 0, 6⟩, ⟨some 19, .load false 1, [.t 18], some (17, true), 0, 7⟩, ⟨some 20, .mov, [.t 7], some (17, true), 0, 8⟩, ⟨some 21, .ix 3, [.t 19, .t 20], some (17, true), 0, 9⟩, ⟨some 22, .fld 2, [.t 21], some (17, true), 0, 10⟩, ⟨some 23, .load false 1, [.t 22], some (17, true), 0, 11⟩, ⟨some 24, .mov, [.t 1], some (17, true), 0, 12⟩, ⟨some 25, .bin .lss, [.t 23, .t 24], some (17, true), 0, 13⟩, o 26 .pick [.t 17, .t 25, .c cf] 14]) (.cond (.t 26) .skip (.exit 0))) (.blk 1 (.reg 0 none [m 27 (.t 7) 0, o 28 (.bin .add) [.t 27, .c (ci 1)] 1, m 7 (.t 28) 2])))
def c216_3 : C := (.seq (.reg 1 none [m 40 (.t 8) 0, o 41 (.fld 2) [.t 3] 1, o 42 (.load false 1) [.t 41] 2, m 43 (.t 7) 3, o 44 (.sub 3 true false false) [.t 42, .t 43] 4, o 45 (.app 0 3 24) [.t 40, .t 44] 5, o 46 (.fld 2) [.t 3] 6, ⟨none, .store 1, [.t 46, .t 45], none, 0, 7⟩]) (.seq (.reg 0 none [o 47 (.load true 4) [.t 3] 0, ⟨none, .store 4, [.t 6, .t 47], none, 0, 1⟩]) .ret))
def l216_0 : List O := [o 29 (.bsl 3 z12 0 []) [] 0, o 30 (.fld 2) [.t 3] 1, ⟨some 31, .load false 1, [.t 30], none, 2, 2⟩, m 32 (.t 7) 3, ⟨some 33, .sub 3 false true false, [.t 31, .t 32], none, 14, 4⟩, ⟨some 34, .app 0 3 24, [.t 29, .t 33], none, 31, 5⟩, o 35 (.load true 2) [.t 5] 6, m 36 (.t 1) 7, ⟨some 37, .build z11 [(0, 2), (2, 1)], [.t 35, .t 36], none, 192, 8⟩, ⟨some 38, .bsl 3 z12 1 [0], [.t 37], none, 448, 9⟩, ⟨some 39, .app 1 3 24, [.t 34, .t 38], none, 1023, 10⟩, ⟨some 8, .mov, [.t 39], none, 2047, 11⟩]
def c216_s1 : C := (.seq (.reg 2 (some ⟨false, [], 48⟩) l216_0) (.jn 844424930132424 c216_3))
def c216_1 : C := (.seq (.reg 3 none [o 3 (.box 0) [.t 0] 0, o 5 (.box 1) [.t 2] 1, o 6 (.alloc 2 z10) [] 2]) (.seq (.reg 0 none [o 9 (.load true 4) [.t 3] 0, m 10 (.t 1) 1, o 11 (.call 229) [.t 9, .t 10] 2, ⟨none, .store 4, [.t 3, .t 11], none, 0, 3⟩]) (.seq (.reg 0 none [m 7 (.c (ci 0)) 0]) (.seq (.blk 0 (.loop 562949953421546 false c216_2)) c216_s1))))
def c216 : Fn := { fid := 216, np := 3, ntmps := 48, body := (.jn 281474976710663 c216_1), res := [.cell 6 true 4] }
def d216_1 (c : Cx) (t0 t1 t2 : V) (H : List Blk) : X := stepK c.pc c.ic c.n (.jn 281474976710663 c216_1) (cn 0 48 [(0, t0), (1, t1), (2, t2)]) H (kTop c216.res)
def k216_1 (c : Cx) : KT := thenK (stepK c.pc c.ic c.n c216_s1) (kTop c216.res)
def k216_2 (c : Cx) : KT := blkK 0 (k216_1 c)
def d216_2 (c : Cx) (m n2 : Nat) (t1 t3 t5 t6 t7 : V) (H : List Blk) : X := jnK (loopsK (stepK c.pc c.ic c.n c216_2) 562949953421546 false n2 m) (cn 0 48 [(1, t1), (3, t3), (5, t5), (6, t6), (7, t7)]) H (k216_2 c) 562949953421546
def d216_3 (c : Cx) (t3 t6 t7 t8 : V) (H : List Blk) : X := stepK c.pc c.ic c.n (.jn 844424930132424 c216_3) (cn 0 48 [(3, t3), (6, t6), (7, t7), (8, t8)]) H (kTop c216.res)
def b216_3 (c : Cx) (t3 t6 t7 t8 : V) (H : List Blk) : X := newK 1 H fun q H => p (aFld 2 t3) fun x1 => (aLoad false 1 x1).go H fun x2 H => (fun (t3 t6 t7 t8 x2 : V) (q : Nat) (H : L) => (aSub 3 true false false x2 [t7]).go H fun x3 H => (aApp (q + 0) 3 24 t8 x3).go H fun x4 H => p (aFld 2 t3) fun x5 => (aStore 1 x5 x4).go H fun _ H => (aLoad true 4 t3).go H fun x6 H => (aStore 4 t6 x6).go H fun _ H => bnd (loadV true 4 t6 H) fun x7 => some (x7, H)) t3 t6 t7 t8 x2 q H
def j216_3 (c : Cx) : F4 := b216_3 c
theorem o216_3 (c : Cx) : d216_3 c = j216_3 c := by
  unfold j216_3
  funext t3 t6 t7 t8 H
  refine Eq.trans (stepK_jn c.pc c.ic c.n _ H _ 844424930132424 c216_3) ?_
  kernel_rfl
def b216_2 (c : Cx) (r2 : F5) (j3 : F4) (n2 : Nat) (t1 t3 t5 t6 t7 : V) (H : List Blk) : X := p (aFld 2 t3) fun x1 => (fun (t1 t3 t5 t6 t7 x1 : V) (H : L) (c : Cx) (j3 : F4) (r2 : F5) => (aLoad false 1 x1).go H fun x2 H => (aLen 1 x2).go H fun x3 H => p (aBin .lss t7 x3) fun x4 => guardK x4 true (fun k => (aFld 2 t3).go H k) H fun x5 H => (fun (t1 t3 t5 t6 t7 x1 x2 x3 x4 x5 : V) (H : L) (c : Cx) (j3 : F4) (r2 : F5) => guardK x4 true (fun k => (aLoad false 1 x5).go H k) H fun x6 H => guardK x4 true (fun k => (aMov t7).go H k) H fun x7 H => guardK x4 true (fun k => (aIx 3 x6 x7).go H k) H fun x8 H => guardK x4 true (fun k => (aFld 2 x8).go H k) H fun x9 H => (fun (t1 t3 t5 t6 t7 x1 x2 x3 x4 x5 x6 x7 x8 x9 : V) (H : L) (c : Cx) (j3 : F4) (r2 : F5) => guardK x4 true (fun k => (aLoad false 1 x9).go H k) H fun x10 H => guardK x4 true (fun k => (aMov t1).go H k) H fun x11 H => guardK x4 true (fun k => (aBin .lss x10 x11).go H k) H fun x12 H => p (aPick x4 x12 cf) fun x13 => condK x13 (p (aBin .add t7 (ci 1)) fun x14 => r2 t1 t3 t5 t6 x14 H) ((fun (t1 t3 t5 t6 t7 x1 x2 x3 x4 x5 x6 x7 x8 x9 x10 x11 x12 x13 : V) (H : L) (c : Cx) (j3 : F4) => newK 2 H fun q H => drawnK c.pc c.ic l216_0 q (cn 0 48 [(1, t1), (3, t3), (5, t5), (6, t6), (7, t7), (12, t7), (13, x1), (14, x2), (15, x3), (16, x4), (17, x4), (18, x5), (19, x6), (20, x7), (21, x8), (22, x9), (23, x10), (24, x11), (25, x12), (26, x13)]) H fun ts14 H => j3 (getT ts14 3) (getT ts14 6) (getT ts14 7) (getT ts14 8) H) t1 t3 t5 t6 t7 x1 x2 x3 x4 x5 x6 x7 x8 x9 x10 x11 x12 x13 H c j3)) t1 t3 t5 t6 t7 x1 x2 x3 x4 x5 x6 x7 x8 x9 H c j3 r2) t1 t3 t5 t6 t7 x1 x2 x3 x4 x5 H c j3 r2) t1 t3 t5 t6 t7 x1 H c j3 r2
def j216_2 (c : Cx) : Nat → Nat → F5 := recN (fun _ _ _ _ _ _ _ => none) fun ih n2 => b216_2 c (ih n2) (j216_3 c) n2
theorem o216_2 (c : Cx) : d216_2 c = j216_2 c := by
  unfold j216_2
  refine recN_ok (by kernel_rfl) fun m => funext fun n2 => ?_
  simp only [← o216_3]
  funext t1 t3 t5 t6 t7 H
  refine Eq.trans (jnK_eq 562949953421546 _ _ H _) ?_
  kernel_rfl
def b216_1 (c : Cx) (j2 : Nat → Nat → F5) (t0 t1 t2 : V) (H : List Blk) : X := newK 3 H fun q H => (aBox (q + 0) t0).go H fun x1 H => (aBox (q + 1) t2).go H fun x2 H => (aAlloc (q + 2) z10).go H fun x3 H => (aLoad true 4 x1).go H fun x4 H => p (aCall c.pc 229 [x4, t1]) fun x5 => (aStore 4 x1 x5).go H fun _ H => j2 c.n H.length t1 x1 x2 x3 (ci 0) H
def j216_1 (c : Cx) : F3 := b216_1 c (j216_2 c)
theorem o216_1 (c : Cx) : d216_1 c = j216_1 c := by
  unfold j216_1; rw [← o216_2]
  funext t0 t1 t2 H
  refine Eq.trans (stepK_jn c.pc c.ic c.n _ H _ 281474976710663 c216_1) ?_
  kernel_rfl
def b216_0 (c : Cx) (j1 : F3) (t0 t1 t2 : V) (H : List Blk) : X := j1 t0 t1 t2 H
def s216 (c : Cx) (args : List V) (H : List Blk) : X := argsK 3 args (b216_0 c (j216_1 c) (getT args 0) (getT args 1) (getT args 2) H)
theorem e216 (pc ic n args H) : runK pc ic n c216 args H = s216 ⟨pc, ic, n⟩ args H := by
  unfold s216; rw [← o216_1]
  kernel_rfl
def L216 : Leaf := ⟨c216, fun pc ic n => s216 ⟨pc, ic, n⟩, e216⟩
theorem kk216 : chkFn Go.Proofs.Tryz.prog ET 216 c216 = true := by kernel_rfl

def c218 : Fn := { fid := 218, np := 1, ntmps := 5, body := (.seq (.reg 0 none [m 2 (.c (.d (.str []))) 0]) (.seq (.reg 0 none [m 3 (.t 0) 0, o 4 (.bin .add) [.c (.d (.str [46, 119, 104, 46])), .t 3] 1, m 2 (.t 4) 2]) .ret)), res := [.tmp 2] }
def b218_0 (c : Cx) (t0 : V) (H : List Blk) : X := p (aBin .add (.d (.str [46, 119, 104, 46])) t0) fun x1 => some (x1, H)
def s218 (c : Cx) (args : List V) (H : List Blk) : X := argsK 1 args (b218_0 c (getT args 0) H)
theorem e218 (pc ic n args H) : runK pc ic n c218 args H = s218 ⟨pc, ic, n⟩ args H := by
  unfold s218
  kernel_rfl
def L218 : Leaf := ⟨c218, fun pc ic n => s218 ⟨pc, ic, n⟩, e218⟩
theorem kk218 : chkFn Go.Proofs.Tryz.prog ET 218 c218 = true := by kernel_rfl

def c220_2 : C := (.seq (.seq (.reg 0 (some ⟨true, [], 48⟩) [m 12 (.t 7) 0, o 13 (.fld 1) [.t 3] 1, ⟨some 14, .load false 1, [.t 13], none, 2, 2⟩, ⟨some 15, .len 1, [.t 14], none, 6, 3⟩, ⟨some 16, .bin .lss, [.t 12, .t 15], none, 15, 4⟩, ⟨some 17, .mov, [.t 16], none, 31, 5⟩, ⟨some 18, .fld 1, [.t 3], some (17, true), 63, 6⟩, ⟨some 19, .load false 1, [.t 18], some (17, true), 127, 7⟩, ⟨some 20, .mov, [.t 7], some (17, true), 63, 8⟩, ⟨some 21, .ix 3, [.t 19, .t 20], some (17, true), 511, 9⟩, ⟨some 22, .fld 0, [.t 21], some (17, true), 1023, 10⟩, ⟨some 23, .load true 2, [.t 22], some (17, true), 2047, 11⟩, ⟨some 24, .load true 2, [.t 4], some (17, true), 63, 12⟩, ⟨some 25, .call 248, [.t 23, .t 24], some (17, true), 8191, 13⟩, ⟨some 26, .pick, [.t 17, .t 25, .c cf], none, 16383, 14⟩]) (.cond (.t 26) .skip (.exit 0))) (.blk 1 (.reg 0 none [m 27 (.t 7) 0, o 28 (.bin .add) [.t 27, .c (ci 1)] 1, m 7 (.t 28) 2])))
def c220_3 : C := (.seq (.reg 1 none [m 40 (.t 8) 0, o 41 (.fld 1) [.t 3] 1, o 42 (.load false 1) [.t 41] 2, m 43 (.t 7) 3, o 44 (.sub 3 true false false) [.t 42, .t 43] 4, o 45 (.app 0 3 24) [.t 40, .t 44] 5, o 46 (.fld 1) [.t 3] 6, ⟨none, .store 1, [.t 46, .t 45], none, 0, 7⟩]) (.seq (.reg 0 none [o 47 (.load true 4) [.t 3] 0, ⟨none, .store 4, [.t 6, .t 47], none, 0, 1⟩]) .ret))
def l220_0 : List O := [o 29 (.bsl 3 z12 0 []) [] 0, o 30 (.fld 1) [.t 3] 1, ⟨some 31, .load false 1, [.t 30], none, 2, 2⟩, m 32 (.t 7) 3, ⟨some 33, .sub 3 false true false, [.t 31, .t 32], none, 14, 4⟩, ⟨some 34, .app 0 3 24, [.t 29, .t 33], none, 31, 5⟩, o 35 (.load true 2) [.t 4] 6, m 36 (.t 2) 7, ⟨some 37, .build z11 [(0, 2), (2, 1)], [.t 35, .t 36], none, 192, 8⟩, ⟨some 38, .bsl 3 z12 1 [0], [.t 37], none, 448, 9⟩, ⟨some 39, .app 1 3 24, [.t 34, .t 38], none, 1023, 10⟩, ⟨some 8, .mov, [.t 39], none, 2047, 11⟩]
def c220_s1 : C := (.seq (.reg 2 (some ⟨false, [], 48⟩) l220_0) (.jn 844424930132424 c220_3))
def c220_1 : C := (.seq (.reg 3 none [o 3 (.box 0) [.t 0] 0, o 4 (.box 1) [.t 1] 1, o 6 (.alloc 2 z10) [] 2]) (.seq (.reg 0 none [o 9 (.load true 4) [.t 3] 0, o 10 (.load true 2) [.t 4] 1, o 11 (.call 224) [.t 9, .t 10] 2, ⟨none, .store 4, [.t 3, .t 11], none, 0, 3⟩]) (.seq (.reg 0 none [m 7 (.c (ci 0)) 0]) (.seq (.blk 0 (.loop 562949953421532 false c220_2)) c220_s1))))
def c220 : Fn := { fid := 220, np := 3, ntmps := 48, body := (.jn 281474976710663 c220_1), res := [.cell 6 true 4] }
def d220_1 (c : Cx) (t0 t1 t2 : V) (H : List Blk) : X := stepK c.pc c.ic c.n (.jn 281474976710663 c220_1) (cn 0 48 [(0, t0), (1, t1), (2, t2)]) H (kTop c220.res)
def k220_1 (c : Cx) : KT := thenK (stepK c.pc c.ic c.n c220_s1) (kTop c220.res)
def k220_2 (c : Cx) : KT := blkK 0 (k220_1 c)
def d220_2 (c : Cx) (m n2 : Nat) (t2 t3 t4 t6 t7 : V) (H : List Blk) : X := jnK (loopsK (stepK c.pc c.ic c.n c220_2) 562949953421532 false n2 m) (cn 0 48 [(2, t2), (3, t3), (4, t4), (6, t6), (7, t7)]) H (k220_2 c) 562949953421532
def d220_3 (c : Cx) (t3 t6 t7 t8 : V) (H : List Blk) : X := stepK c.pc c.ic c.n (.jn 844424930132424 c220_3) (cn 0 48 [(3, t3), (6, t6), (7, t7), (8, t8)]) H (kTop c220.res)
def b220_3 (c : Cx) (t3 t6 t7 t8 : V) (H : List Blk) : X := newK 1 H fun q H => p (aFld 1 t3) fun x1 => (aLoad false 1 x1).go H fun x2 H => (fun (t3 t6 t7 t8 x2 : V) (q : Nat) (H : L) => (aSub 3 true false false x2 [t7]).go H fun x3 H => (aApp (q + 0) 3 24 t8 x3).go H fun x4 H => p (aFld 1 t3) fun x5 => (aStore 1 x5 x4).go H fun _ H => (aLoad true 4 t3).go H fun x6 H => (aStore 4 t6 x6).go H fun _ H => bnd (loadV true 4 t6 H) fun x7 => some (x7, H)) t3 t6 t7 t8 x2 q H
def j220_3 (c : Cx) : F4 := b220_3 c
theorem o220_3 (c : Cx) : d220_3 c = j220_3 c := by
  unfold j220_3
  funext t3 t6 t7 t8 H
  refine Eq.trans (stepK_jn c.pc c.ic c.n _ H _ 844424930132424 c220_3) ?_
  kernel_rfl
def b220_2 (c : Cx) (r2 : F5) (j3 : F4) (n2 : Nat) (t2 t3 t4 t6 t7 : V) (H : List Blk) : X := p (aFld 1 t3) fun x1 => (fun (t2 t3 t4 t6 t7 x1 : V) (H : L) (c : Cx) (j3 : F4) (r2 : F5) => (aLoad false 1 x1).go H fun x2 H => (aLen 1 x2).go H fun x3 H => p (aBin .lss t7 x3) fun x4 => guardK x4 true (fun k => (aFld 1 t3).go H k) H fun x5 H => (fun (t2 t3 t4 t6 t7 x1 x2 x3 x4 x5 : V) (H : L) (c : Cx) (j3 : F4) (r2 : F5) => guardK x4 true (fun k => (aLoad false 1 x5).go H k) H fun x6 H => guardK x4 true (fun k => (aMov t7).go H k) H fun x7 H => guardK x4 true (fun k => (aIx 3 x6 x7).go H k) H fun x8 H => guardK x4 true (fun k => (aFld 0 x8).go H k) H fun x9 H => (fun (t2 t3 t4 t6 t7 x1 x2 x3 x4 x5 x6 x7 x8 x9 : V) (H : L) (c : Cx) (j3 : F4) (r2 : F5) => guardK x4 true (fun k => (aLoad true 2 x9).go H k) H fun x10 H => guardK x4 true (fun k => (aLoad true 2 t4).go H k) H fun x11 H => guardK x4 true (fun k => (aCall c.pc 248 [x10, x11]).go H k) H fun x12 H => p (aPick x4 x12 cf) fun x13 => condK x13 (p (aBin .add t7 (ci 1)) fun x14 => r2 t2 t3 t4 t6 x14 H) ((fun (t2 t3 t4 t6 t7 x1 x2 x3 x4 x5 x6 x7 x8 x9 x10 x11 x12 x13 : V) (H : L) (c : Cx) (j3 : F4) => newK 2 H fun q H => drawnK c.pc c.ic l220_0 q (cn 0 48 [(2, t2), (3, t3), (4, t4), (6, t6), (7, t7), (12, t7), (13, x1), (14, x2), (15, x3), (16, x4), (17, x4), (18, x5), (19, x6), (20, x7), (21, x8), (22, x9), (23, x10), (24, x11), (25, x12), (26, x13)]) H fun ts14 H => j3 (getT ts14 3) (getT ts14 6) (getT ts14 7) (getT ts14 8) H) t2 t3 t4 t6 t7 x1 x2 x3 x4 x5 x6 x7 x8 x9 x10 x11 x12 x13 H c j3)) t2 t3 t4 t6 t7 x1 x2 x3 x4 x5 x6 x7 x8 x9 H c j3 r2) t2 t3 t4 t6 t7 x1 x2 x3 x4 x5 H c j3 r2) t2 t3 t4 t6 t7 x1 H c j3 r2
def j220_2 (c : Cx) : Nat → Nat → F5 := recN (fun _ _ _ _ _ _ _ => none) fun ih n2 => b220_2 c (ih n2) (j220_3 c) n2
theorem o220_2 (c : Cx) : d220_2 c = j220_2 c := by
  unfold j220_2
  refine recN_ok (by kernel_rfl) fun m => funext fun n2 => ?_
  simp only [← o220_3]
  funext t2 t3 t4 t6 t7 H
  refine Eq.trans (jnK_eq 562949953421532 _ _ H _) ?_
  kernel_rfl
def b220_1 (c : Cx) (j2 : Nat → Nat → F5) (t0 t1 t2 : V) (H : List Blk) : X := newK 3 H fun q H => (aBox (q + 0) t0).go H fun x1 H => (aBox (q + 1) t1).go H fun x2 H => (aAlloc (q + 2) z10).go H fun x3 H => (aLoad true 4 x1).go H fun x4 H => (aLoad true 2 x2).go H fun x5 H => p (aCall c.pc 224 [x4, x5]) fun x6 => (aStore 4 x1 x6).go H fun _ H => j2 c.n H.length t2 x1 x2 x3 (ci 0) H
def j220_1 (c : Cx) : F3 := b220_1 c (j220_2 c)
theorem o220_1 (c : Cx) : d220_1 c = j220_1 c := by
  unfold j220_1; rw [← o220_2]
  funext t0 t1 t2 H
  refine Eq.trans (stepK_jn c.pc c.ic c.n _ H _ 281474976710663 c220_1) ?_
  kernel_rfl
def b220_0 (c : Cx) (j1 : F3) (t0 t1 t2 : V) (H : List Blk) : X := j1 t0 t1 t2 H
def s220 (c : Cx) (args : List V) (H : List Blk) : X := argsK 3 args (b220_0 c (j220_1 c) (getT args 0) (getT args 1) (getT args 2) H)
theorem e220 (pc ic n args H) : runK pc ic n c220 args H = s220 ⟨pc, ic, n⟩ args H := by
  unfold s220; rw [← o220_1]
  kernel_rfl
def L220 : Leaf := ⟨c220, fun pc ic n => s220 ⟨pc, ic, n⟩, e220⟩
theorem kk220 : chkFn Go.Proofs.Tryz.prog ET 220 c220 = true := by kernel_rfl

def c221 : Fn := { fid := 221, np := 3, ntmps := 21, body := (.seq (.reg 1 none [o 3 (.box 0) [.t 0] 0, m 6 (.c (ci 0)) 1, m 7 (.c cf) 2]) (.seq (.reg 1 none [o 11 (.load true 4) [.t 3] 0, m 12 (.t 1) 1, o 13 (.call 16) [.t 11, .t 12] 2, m 10 (.t 13) 3, o 14 (.ext 0) [.t 10] 4, o 15 (.ext 1) [.t 10] 5, o 8 (.alloc 0 z1) [] 6, ⟨none, .store 8, [.t 8, .t 14], none, 0, 7⟩, m 9 (.t 15) 8]) (.seq (.reg 0 none [o 16 (.load true 8) [.t 8] 0, m 17 (.t 2) 1, o 18 (.call 44) [.t 16, .t 17] 2, o 19 (.ext 0) [.t 18] 3, o 20 (.ext 1) [.t 18] 4, m 6 (.t 19) 5, m 7 (.t 20) 6]) .ret))), res := [.tmp 6, .tmp 7] }
def b221_0 (c : Cx) (t0 t1 t2 : V) (H : List Blk) : X := newK 1 H fun q H => (aBox (q + 0) t0).go H fun x1 H => newK 1 H fun q H => (aLoad true 4 x1).go H fun x2 H => p (aCall c.pc 16 [x2, t1]) fun x3 => (fun (t2 x3 : V) (q : Nat) (H : L) (c : Cx) => p (aExt 0 x3) fun x4 => p (aExt 1 x3) fun x5 => (aAlloc (q + 0) z1).go H fun x6 H => (aStore 8 x6 x4).go H fun _ H => (aLoad true 8 x6).go H fun x7 H => p (aCall c.pc 44 [x7, t2]) fun x8 => p (aExt 0 x8) fun x9 => p (aExt 1 x8) fun x10 => some (.tup [x9, x10], H)) t2 x3 q H c
def s221 (c : Cx) (args : List V) (H : List Blk) : X := argsK 3 args (b221_0 c (getT args 0) (getT args 1) (getT args 2) H)
theorem e221 (pc ic n args H) : runK pc ic n c221 args H = s221 ⟨pc, ic, n⟩ args H := by
  unfold s221
  kernel_rfl
def L221 : Leaf := ⟨c221, fun pc ic n => s221 ⟨pc, ic, n⟩, e221⟩
theorem kk221 : chkFn Go.Proofs.Tryz.prog ET 221 c221 = true := by kernel_rfl

def c222_1 : C := (.seq (.reg 2 none [o 4 (.box 0) [.t 0] 0, o 8 (.alloc 1 z0) [] 1]) (.seq (.reg 1 none [o 12 (.load true 4) [.t 4] 0, m 13 (.t 1) 1, o 14 (.call 16) [.t 12, .t 13] 2, m 11 (.t 14) 3, o 15 (.ext 0) [.t 11] 4, o 16 (.ext 1) [.t 11] 5, o 9 (.alloc 0 z1) [] 6, ⟨none, .store 8, [.t 9, .t 15], none, 0, 7⟩, m 10 (.t 16) 8]) (.seq (.reg 0 (some ⟨true, [], 23⟩) [o 17 (.load true 4) [.t 4] 0, o 18 (.load true 8) [.t 9] 1, m 19 (.t 2) 2, m 20 (.t 3) 3, ⟨some 21, .call 105, [.t 18, .t 19, .t 20], none, 14, 4⟩, ⟨some 22, .call 103, [.t 17, .t 21], none, 31, 5⟩, ⟨none, .store 4, [.t 8, .t 22], none, 63, 6⟩]) .ret)))
def c222 : Fn := { fid := 222, np := 4, ntmps := 23, body := (.jn 8388623 c222_1), res := [.cell 8 true 4] }
def d222_1 (c : Cx) (t0 t1 t2 t3 : V) (H : List Blk) : X := stepK c.pc c.ic c.n (.jn 8388623 c222_1) (cn 0 23 [(0, t0), (1, t1), (2, t2), (3, t3)]) H (kTop c222.res)
def b222_1 (c : Cx) (t0 t1 t2 t3 : V) (H : List Blk) : X := newK 2 H fun q H => (aBox (q + 0) t0).go H fun x1 H => (aAlloc (q + 1) z0).go H fun x2 H => newK 1 H fun q H => (aLoad true 4 x1).go H fun x3 H => p (aCall c.pc 16 [x3, t1]) fun x4 => (fun (t2 t3 x1 x2 x4 : V) (q : Nat) (H : L) (c : Cx) => p (aExt 0 x4) fun x5 => p (aExt 1 x4) fun x6 => (aAlloc (q + 0) z1).go H fun x7 H => (aStore 8 x7 x5).go H fun _ H => (aLoad true 4 x1).go H fun x8 H => (fun (t2 t3 x2 x7 x8 : V) (H : L) (c : Cx) => (aLoad true 8 x7).go H fun x9 H => p (aCall c.pc 105 [x9, t2, t3]) fun x10 => p (aCall c.pc 103 [x8, x10]) fun x11 => (aStore 4 x2 x11).go H fun _ H => bnd (loadV true 4 x2 H) fun x12 => some (x12, H)) t2 t3 x2 x7 x8 H c) t2 t3 x1 x2 x4 q H c
def j222_1 (c : Cx) : F4 := b222_1 c
theorem o222_1 (c : Cx) : d222_1 c = j222_1 c := by
  unfold j222_1
  funext t0 t1 t2 t3 H
  refine Eq.trans (stepK_jn c.pc c.ic c.n _ H _ 8388623 c222_1) ?_
  kernel_rfl
def b222_0 (c : Cx) (j1 : F4) (t0 t1 t2 t3 : V) (H : List Blk) : X := j1 t0 t1 t2 t3 H
def s222 (c : Cx) (args : List V) (H : List Blk) : X := argsK 4 args (b222_0 c (j222_1 c) (getT args 0) (getT args 1) (getT args 2) (getT args 3) H)
theorem e222 (pc ic n args H) : runK pc ic n c222 args H = s222 ⟨pc, ic, n⟩ args H := by
  unfold s222; rw [← o222_1]
  kernel_rfl
def L222 : Leaf := ⟨c222, fun pc ic n => s222 ⟨pc, ic, n⟩, e222⟩
theorem kk222 : chkFn Go.Proofs.Tryz.prog ET 222 c222 = true := by kernel_rfl

def c224_2 : C := (.seq (.seq (.reg 0 none [m 7 (.t 6) 0, o 8 (.fld 1) [.t 2] 1, o 9 (.load false 1) [.t 8] 2, o 10 (.len 1) [.t 9] 3, o 11 (.bin .lss) [.t 7, .t 10] 4]) (.cond (.t 11) .skip (.exit 0))) (.seq (.blk 1 (.seq (.reg 0 (some ⟨true, [], 33⟩) [o 14 (.fld 1) [.t 2] 0, ⟨some 15, .load false 1, [.t 14], none, 1, 1⟩, m 16 (.t 6) 2, ⟨some 17, .ix 3, [.t 15, .t 16], none, 7, 3⟩, ⟨some 18, .fld 0, [.t 17], none, 15, 4⟩, ⟨some 19, .load true 2, [.t 18], none, 31, 5⟩, o 20 (.load true 2) [.t 3] 6, ⟨some 21, .beq true [0, 0], [.t 19, .t 20], none, 127, 7⟩]) (.cond (.t 21) (.reg 1 none [m 22 (.t 5) 0, o 23 (.fld 1) [.t 2] 1, o 24 (.load false 1) [.t 23] 2, m 25 (.t 6) 3, o 26 (.ix 3) [.t 24, .t 25] 4, o 27 (.load true 3) [.t 26] 5, o 28 (.bsl 3 z12 1 [0]) [.t 27] 6, o 29 (.app 0 3 24) [.t 22, .t 28] 7, m 5 (.t 29) 8]) .skip))) (.reg 0 none [m 12 (.t 6) 0, o 13 (.bin .add) [.t 12, .c (ci 1)] 1, m 6 (.t 13) 2])))
def c224_s1 : C := (.seq (.reg 0 none [m 30 (.t 5) 0, o 31 (.fld 1) [.t 2] 1, ⟨none, .store 1, [.t 31, .t 30], none, 0, 2⟩]) (.seq (.reg 0 none [o 32 (.load true 4) [.t 2] 0, ⟨none, .store 4, [.t 4, .t 32], none, 0, 1⟩]) .ret))
def c224_1 : C := (.seq (.reg 3 none [o 2 (.box 0) [.t 0] 0, o 3 (.box 1) [.t 1] 1, o 4 (.alloc 2 z10) [] 2]) (.seq (.reg 0 none [m 5 (.c .nilS) 0]) (.seq (.seq (.reg 0 none [m 6 (.c (ci 0)) 0]) (.blk 0 (.loop 17179869308 false c224_2))) c224_s1)))
def c224 : Fn := { fid := 224, np := 2, ntmps := 33, body := (.jn 8589934595 c224_1), res := [.cell 4 true 4] }
def d224_1 (c : Cx) (t0 t1 : V) (H : List Blk) : X := stepK c.pc c.ic c.n (.jn 8589934595 c224_1) (cn 0 33 [(0, t0), (1, t1)]) H (kTop c224.res)
def k224_1 (c : Cx) : KT := thenK (stepK c.pc c.ic c.n c224_s1) (kTop c224.res)
def k224_2 (c : Cx) : KT := blkK 0 (k224_1 c)
def d224_2 (c : Cx) (m n2 : Nat) (t2 t3 t4 t5 t6 : V) (H : List Blk) : X := jnK (loopsK (stepK c.pc c.ic c.n c224_2) 17179869308 false n2 m) (cn 0 33 [(2, t2), (3, t3), (4, t4), (5, t5), (6, t6)]) H (k224_2 c) 17179869308
def b224_2 (c : Cx) (r2 : F5) (n2 : Nat) (t2 t3 t4 t5 t6 : V) (H : List Blk) : X := p (aFld 1 t2) fun x1 => (aLoad false 1 x1).go H fun x2 H => (aLen 1 x2).go H fun x3 H => p (aBin .lss t6 x3) fun x4 => condK x4 ((fun (t2 t3 t4 t5 t6 : V) (H : L) (r2 : F5) => p (aFld 1 t2) fun x5 => (aLoad false 1 x5).go H fun x6 H => p (aIx 3 x6 t6) fun x7 => (fun (t2 t3 t4 t5 t6 x7 : V) (H : L) (r2 : F5) => p (aFld 0 x7) fun x8 => (aLoad true 2 x8).go H fun x9 H => (aLoad true 2 t3).go H fun x10 H => p (aBeq true [0, 0] x9 x10) fun x11 => condK x11 ((fun (t2 t3 t4 t5 t6 : V) (H : L) (r2 : F5) => newK 1 H fun q H => p (aFld 1 t2) fun x12 => (aLoad false 1 x12).go H fun x13 H => (fun (t2 t3 t4 t5 t6 x13 : V) (q : Nat) (H : L) (r2 : F5) => p (aIx 3 x13 t6) fun x14 => (aLoad true 3 x14).go H fun x15 H => p (aBsl 3 z12 1 [0] [x15]) fun x16 => (aApp (q + 0) 3 24 t5 x16).go H fun x17 H => p (aBin .add t6 (ci 1)) fun x18 => r2 t2 t3 t4 x17 x18 H) t2 t3 t4 t5 t6 x13 q H r2) t2 t3 t4 t5 t6 H r2) (p (aBin .add t6 (ci 1)) fun x19 => r2 t2 t3 t4 t5 x19 H)) t2 t3 t4 t5 t6 x7 H r2) t2 t3 t4 t5 t6 H r2) ((fun (t2 t4 t5 : V) (H : L) => p (aFld 1 t2) fun x20 => (aStore 1 x20 t5).go H fun _ H => (aLoad true 4 t2).go H fun x21 H => (aStore 4 t4 x21).go H fun _ H => bnd (loadV true 4 t4 H) fun x22 => some (x22, H)) t2 t4 t5 H)
def j224_2 (c : Cx) : Nat → Nat → F5 := recN (fun _ _ _ _ _ _ _ => none) fun ih n2 => b224_2 c (ih n2) n2
theorem o224_2 (c : Cx) : d224_2 c = j224_2 c := by
  unfold j224_2
  refine recN_ok (by kernel_rfl) fun m => funext fun n2 => ?_
  funext t2 t3 t4 t5 t6 H
  refine Eq.trans (jnK_eq 17179869308 _ _ H _) ?_
  kernel_rfl
def b224_1 (c : Cx) (j2 : Nat → Nat → F5) (t0 t1 : V) (H : List Blk) : X := newK 3 H fun q H => (aBox (q + 0) t0).go H fun x1 H => (aBox (q + 1) t1).go H fun x2 H => (aAlloc (q + 2) z10).go H fun x3 H => j2 c.n H.length x1 x2 x3 .nilS (ci 0) H
def j224_1 (c : Cx) : F2 := b224_1 c (j224_2 c)
theorem o224_1 (c : Cx) : d224_1 c = j224_1 c := by
  unfold j224_1; rw [← o224_2]
  funext t0 t1 H
  refine Eq.trans (stepK_jn c.pc c.ic c.n _ H _ 8589934595 c224_1) ?_
  kernel_rfl
def b224_0 (c : Cx) (j1 : F2) (t0 t1 : V) (H : List Blk) : X := j1 t0 t1 H
def s224 (c : Cx) (args : List V) (H : List Blk) : X := argsK 2 args (b224_0 c (j224_1 c) (getT args 0) (getT args 1) H)
theorem e224 (pc ic n args H) : runK pc ic n c224 args H = s224 ⟨pc, ic, n⟩ args H := by
  unfold s224; rw [← o224_1]
  kernel_rfl
def L224 : Leaf := ⟨c224, fun pc ic n => s224 ⟨pc, ic, n⟩, e224⟩
theorem kk224 : chkFn Go.Proofs.Tryz.prog ET 224 c224 = true := by kernel_rfl

def c225 : Fn := { fid := 225, np := 3, ntmps := 12, body := (.seq (.reg 1 none [o 3 (.box 0) [.t 0] 0, m 6 (.c cf) 1]) (.seq (.reg 0 (some ⟨true, [], 12⟩) [o 7 (.load true 4) [.t 3] 0, m 8 (.t 1) 1, m 9 (.t 2) 2, ⟨some 10, .call 218, [.t 9], none, 4, 3⟩, ⟨some 11, .call 281, [.t 7, .t 8, .t 10], none, 15, 4⟩, ⟨some 6, .mov, [.t 11], none, 31, 5⟩]) .ret)), res := [.tmp 6] }
def b225_0 (c : Cx) (t0 t1 t2 : V) (H : List Blk) : X := newK 1 H fun q H => (aBox (q + 0) t0).go H fun x1 H => (aLoad true 4 x1).go H fun x2 H => p (aCall c.pc 218 [t2]) fun x3 => p (aCall c.pc 281 [x2, t1, x3]) fun x4 => some (x4, H)
def s225 (c : Cx) (args : List V) (H : List Blk) : X := argsK 3 args (b225_0 c (getT args 0) (getT args 1) (getT args 2) H)
theorem e225 (pc ic n args H) : runK pc ic n c225 args H = s225 ⟨pc, ic, n⟩ args H := by
  unfold s225
  kernel_rfl
def L225 : Leaf := ⟨c225, fun pc ic n => s225 ⟨pc, ic, n⟩, e225⟩
theorem kk225 : chkFn Go.Proofs.Tryz.prog ET 225 c225 = true := by kernel_rfl

def c229_2 : C := (.seq (.seq (.reg 0 none [m 7 (.t 6) 0, o 8 (.fld 2) [.t 2] 1, o 9 (.load false 1) [.t 8] 2, o 10 (.len 1) [.t 9] 3, o 11 (.bin .lss) [.t 7, .t 10] 4]) (.cond (.t 11) .skip (.exit 0))) (.seq (.blk 1 (.seq (.reg 0 none [o 14 (.fld 2) [.t 2] 0, o 15 (.load false 1) [.t 14] 1, m 16 (.t 6) 2, o 17 (.ix 3) [.t 15, .t 16] 3, o 18 (.fld 2) [.t 17] 4, o 19 (.load false 1) [.t 18] 5, m 20 (.t 1) 6, o 21 (.bin .neq) [.t 19, .t 20] 7]) (.cond (.t 21) (.reg 1 none [m 22 (.t 5) 0, o 23 (.fld 2) [.t 2] 1, o 24 (.load false 1) [.t 23] 2, m 25 (.t 6) 3, o 26 (.ix 3) [.t 24, .t 25] 4, o 27 (.load true 3) [.t 26] 5, o 28 (.bsl 3 z12 1 [0]) [.t 27] 6, o 29 (.app 0 3 24) [.t 22, .t 28] 7, m 5 (.t 29) 8]) .skip))) (.reg 0 none [m 12 (.t 6) 0, o 13 (.bin .add) [.t 12, .c (ci 1)] 1, m 6 (.t 13) 2])))
def c229_s1 : C := (.seq (.reg 0 none [m 30 (.t 5) 0, o 31 (.fld 2) [.t 2] 1, ⟨none, .store 1, [.t 31, .t 30], none, 0, 2⟩]) (.seq (.reg 0 none [o 32 (.load true 4) [.t 2] 0, ⟨none, .store 4, [.t 4, .t 32], none, 0, 1⟩]) .ret))
def c229_1 : C := (.seq (.reg 2 none [o 2 (.box 0) [.t 0] 0, o 4 (.alloc 1 z10) [] 1]) (.seq (.reg 0 none [m 5 (.c .nilS) 0]) (.seq (.seq (.reg 0 none [m 6 (.c (ci 0)) 0]) (.blk 0 (.loop 17179869302 false c229_2))) c229_s1)))
def c229 : Fn := { fid := 229, np := 2, ntmps := 33, body := (.jn 8589934595 c229_1), res := [.cell 4 true 4] }
def d229_1 (c : Cx) (t0 t1 : V) (H : List Blk) : X := stepK c.pc c.ic c.n (.jn 8589934595 c229_1) (cn 0 33 [(0, t0), (1, t1)]) H (kTop c229.res)
def k229_1 (c : Cx) : KT := thenK (stepK c.pc c.ic c.n c229_s1) (kTop c229.res)
def k229_2 (c : Cx) : KT := blkK 0 (k229_1 c)
def d229_2 (c : Cx) (m n2 : Nat) (t1 t2 t4 t5 t6 : V) (H : List Blk) : X := jnK (loopsK (stepK c.pc c.ic c.n c229_2) 17179869302 false n2 m) (cn 0 33 [(1, t1), (2, t2), (4, t4), (5, t5), (6, t6)]) H (k229_2 c) 17179869302
def b229_2 (c : Cx) (r2 : F5) (n2 : Nat) (t1 t2 t4 t5 t6 : V) (H : List Blk) : X := p (aFld 2 t2) fun x1 => (aLoad false 1 x1).go H fun x2 H => (aLen 1 x2).go H fun x3 H => p (aBin .lss t6 x3) fun x4 => condK x4 ((fun (t1 t2 t4 t5 t6 : V) (H : L) (r2 : F5) => p (aFld 2 t2) fun x5 => (aLoad false 1 x5).go H fun x6 H => (fun (t1 t2 t4 t5 t6 x6 : V) (H : L) (r2 : F5) => p (aIx 3 x6 t6) fun x7 => p (aFld 2 x7) fun x8 => (aLoad false 1 x8).go H fun x9 H => p (aBin .neq x9 t1) fun x10 => condK x10 ((fun (t1 t2 t4 t5 t6 : V) (H : L) (r2 : F5) => newK 1 H fun q H => p (aFld 2 t2) fun x11 => (aLoad false 1 x11).go H fun x12 H => (fun (t1 t2 t4 t5 t6 x12 : V) (q : Nat) (H : L) (r2 : F5) => p (aIx 3 x12 t6) fun x13 => (aLoad true 3 x13).go H fun x14 H => p (aBsl 3 z12 1 [0] [x14]) fun x15 => (aApp (q + 0) 3 24 t5 x15).go H fun x16 H => p (aBin .add t6 (ci 1)) fun x17 => r2 t1 t2 t4 x16 x17 H) t1 t2 t4 t5 t6 x12 q H r2) t1 t2 t4 t5 t6 H r2) (p (aBin .add t6 (ci 1)) fun x18 => r2 t1 t2 t4 t5 x18 H)) t1 t2 t4 t5 t6 x6 H r2) t1 t2 t4 t5 t6 H r2) ((fun (t2 t4 t5 : V) (H : L) => p (aFld 2 t2) fun x19 => (aStore 1 x19 t5).go H fun _ H => (aLoad true 4 t2).go H fun x20 H => (aStore 4 t4 x20).go H fun _ H => bnd (loadV true 4 t4 H) fun x21 => some (x21, H)) t2 t4 t5 H)
def j229_2 (c : Cx) : Nat → Nat → F5 := recN (fun _ _ _ _ _ _ _ => none) fun ih n2 => b229_2 c (ih n2) n2
theorem o229_2 (c : Cx) : d229_2 c = j229_2 c := by
  unfold j229_2
  refine recN_ok (by kernel_rfl) fun m => funext fun n2 => ?_
  funext t1 t2 t4 t5 t6 H
  refine Eq.trans (jnK_eq 17179869302 _ _ H _) ?_
  kernel_rfl
def b229_1 (c : Cx) (j2 : Nat → Nat → F5) (t0 t1 : V) (H : List Blk) : X := newK 2 H fun q H => (aBox (q + 0) t0).go H fun x1 H => (aAlloc (q + 1) z10).go H fun x2 H => j2 c.n H.length t1 x1 x2 .nilS (ci 0) H
def j229_1 (c : Cx) : F2 := b229_1 c (j229_2 c)
theorem o229_1 (c : Cx) : d229_1 c = j229_1 c := by
  unfold j229_1; rw [← o229_2]
  funext t0 t1 H
  refine Eq.trans (stepK_jn c.pc c.ic c.n _ H _ 8589934595 c229_1) ?_
  kernel_rfl
def b229_0 (c : Cx) (j1 : F2) (t0 t1 : V) (H : List Blk) : X := j1 t0 t1 H
def s229 (c : Cx) (args : List V) (H : List Blk) : X := argsK 2 args (b229_0 c (j229_1 c) (getT args 0) (getT args 1) H)
theorem e229 (pc ic n args H) : runK pc ic n c229 args H = s229 ⟨pc, ic, n⟩ args H := by
  unfold s229; rw [← o229_1]
  kernel_rfl
def L229 : Leaf := ⟨c229, fun pc ic n => s229 ⟨pc, ic, n⟩, e229⟩
theorem kk229 : chkFn Go.Proofs.Tryz.prog ET 229 c229 = true := by kernel_rfl

def c235 : Fn := { fid := 235, np := 1, ntmps := 9, body := (.seq (.reg 1 none [o 1 (.box 0) [.t 0] 0, m 2 (.c (ci 0)) 1]) (.seq (.seq (.reg 0 none [o 3 (.fld 1) [.t 1] 0, o 4 (.load false 1) [.t 3] 1]) (.blk 0 (.seq (.reg 0 none [o 6 (.bin .eql) [.t 4, .c (ci 2)] 0, m 5 (.t 6) 1]) (.cond (.t 5) (.seq (.reg 0 none [m 2 (.c (ci 5)) 0]) .ret) (.seq (.reg 0 none [o 8 (.bin .eql) [.t 4, .c (ci 3)] 0, m 7 (.t 8) 1]) (.cond (.t 7) (.seq (.reg 0 none [m 2 (.c (ci 1)) 0]) .ret) .skip)))))) (.seq (.reg 0 none [m 2 (.c (ci 0)) 0]) .ret))), res := [.tmp 2] }
def b235_0 (c : Cx) (t0 : V) (H : List Blk) : X := newK 1 H fun q H => (aBox (q + 0) t0).go H fun x1 H => p (aFld 1 x1) fun x2 => (aLoad false 1 x2).go H fun x3 H => p (aBin .eql x3 (ci 2)) fun x4 => condK x4 (some ((ci 5), H)) (p (aBin .eql x3 (ci 3)) fun x5 => condK x5 (some ((ci 1), H)) (some ((ci 0), H)))
def s235 (c : Cx) (args : List V) (H : List Blk) : X := argsK 1 args (b235_0 c (getT args 0) H)
theorem e235 (pc ic n args H) : runK pc ic n c235 args H = s235 ⟨pc, ic, n⟩ args H := by
  unfold s235
  kernel_rfl
def L235 : Leaf := ⟨c235, fun pc ic n => s235 ⟨pc, ic, n⟩, e235⟩
theorem kk235 : chkFn Go.Proofs.Tryz.prog ET 235 c235 = true := by kernel_rfl

def c236_2 : C := (.seq (.seq (.reg 0 none [m 6 (.t 5) 0, o 7 (.fld 3) [.t 1] 1, o 8 (.load false 1) [.t 7] 2, o 9 (.len 1) [.t 8] 3, o 10 (.bin .lss) [.t 6, .t 9] 4]) (.cond (.t 10) .skip (.exit 0))) (.seq (.blk 1 (.reg 0 none [m 13 (.t 4) 0, o 14 (.fld 3) [.t 1] 1, o 15 (.load false 1) [.t 14] 2, m 16 (.t 5) 3, o 17 (.ix 8) [.t 15, .t 16] 4, o 18 (.fld 4) [.t 17] 5, o 19 (.fld 1) [.t 18] 6, o 20 (.load false 1) [.t 19] 7, o 21 (.len 1) [.t 20] 8, o 22 (.bin .add) [.t 13, .t 21] 9, m 4 (.t 22) 10])) (.reg 0 none [m 11 (.t 5) 0, o 12 (.bin .add) [.t 11, .c (ci 1)] 1, m 5 (.t 12) 2])))
def c236_s1 : C := (.seq (.reg 0 (some ⟨true, [0, 1, 2, 3, 4, 5], 27⟩) [m 23 (.t 4) 0, o 24 (.fld 3) [.t 1] 1, ⟨some 25, .load false 1, [.t 24], none, 2, 2⟩, ⟨some 26, .len 1, [.t 25], none, 6, 3⟩, ⟨some 2, .mov, [.t 23], none, 1, 4⟩, ⟨some 3, .mov, [.t 26], none, 31, 5⟩]) .ret)
def c236_1 : C := (.seq (.reg 1 none [o 1 (.box 0) [.t 0] 0, m 2 (.c (ci 0)) 1, m 3 (.c (ci 0)) 2]) (.seq (.reg 0 none [m 4 (.c (ci 0)) 0]) (.seq (.seq (.reg 0 none [m 5 (.c (ci 0)) 0]) (.blk 0 (.loop 268435506 false c236_2))) c236_s1)))
def c236 : Fn := { fid := 236, np := 1, ntmps := 27, body := (.jn 134217729 c236_1), res := [.tmp 2, .tmp 3] }
def d236_1 (c : Cx) (t0 : V) (H : List Blk) : X := stepK c.pc c.ic c.n (.jn 134217729 c236_1) (cn 0 27 [(0, t0)]) H (kTop c236.res)
def k236_1 (c : Cx) : KT := thenK (stepK c.pc c.ic c.n c236_s1) (kTop c236.res)
def k236_2 (c : Cx) : KT := blkK 0 (k236_1 c)
def d236_2 (c : Cx) (m n2 : Nat) (t1 t4 t5 : V) (H : List Blk) : X := jnK (loopsK (stepK c.pc c.ic c.n c236_2) 268435506 false n2 m) (cn 0 27 [(1, t1), (4, t4), (5, t5)]) H (k236_2 c) 268435506
def b236_2 (c : Cx) (r2 : F3) (n2 : Nat) (t1 t4 t5 : V) (H : List Blk) : X := p (aFld 3 t1) fun x1 => (aLoad false 1 x1).go H fun x2 H => (aLen 1 x2).go H fun x3 H => p (aBin .lss t5 x3) fun x4 => condK x4 ((fun (t1 t4 t5 : V) (H : L) (r2 : F3) => p (aFld 3 t1) fun x5 => (aLoad false 1 x5).go H fun x6 H => p (aIx 8 x6 t5) fun x7 => p (aFld 4 x7) fun x8 => (fun (t1 t4 t5 x8 : V) (H : L) (r2 : F3) => p (aFld 1 x8) fun x9 => (aLoad false 1 x9).go H fun x10 H => (aLen 1 x10).go H fun x11 H => p (aBin .add t4 x11) fun x12 => p (aBin .add t5 (ci 1)) fun x13 => r2 t1 x12 x13 H) t1 t4 t5 x8 H r2) t1 t4 t5 H r2) (p (aFld 3 t1) fun x14 => (aLoad false 1 x14).go H fun x15 H => (aLen 1 x15).go H fun x16 H => some (.tup [t4, x16], H))
def j236_2 (c : Cx) : Nat → Nat → F3 := recN (fun _ _ _ _ _ => none) fun ih n2 => b236_2 c (ih n2) n2
theorem o236_2 (c : Cx) : d236_2 c = j236_2 c := by
  unfold j236_2
  refine recN_ok (by kernel_rfl) fun m => funext fun n2 => ?_
  funext t1 t4 t5 H
  refine Eq.trans (jnK_eq 268435506 _ _ H _) ?_
  kernel_rfl
def b236_1 (c : Cx) (j2 : Nat → Nat → F3) (t0 : V) (H : List Blk) : X := newK 1 H fun q H => (aBox (q + 0) t0).go H fun x1 H => j2 c.n H.length x1 (ci 0) (ci 0) H
def j236_1 (c : Cx) : F1 := b236_1 c (j236_2 c)
theorem o236_1 (c : Cx) : d236_1 c = j236_1 c := by
  unfold j236_1; rw [← o236_2]
  funext t0 H
  refine Eq.trans (stepK_jn c.pc c.ic c.n _ H _ 134217729 c236_1) ?_
  kernel_rfl
def b236_0 (c : Cx) (j1 : F1) (t0 : V) (H : List Blk) : X := j1 t0 H
def s236 (c : Cx) (args : List V) (H : List Blk) : X := argsK 1 args (b236_0 c (j236_1 c) (getT args 0) H)
theorem e236 (pc ic n args H) : runK pc ic n c236 args H = s236 ⟨pc, ic, n⟩ args H := by
  unfold s236; rw [← o236_1]
  kernel_rfl
def L236 : Leaf := ⟨c236, fun pc ic n => s236 ⟨pc, ic, n⟩, e236⟩
theorem kk236 : chkFn Go.Proofs.Tryz.prog ET 236 c236 = true := by kernel_rfl

def c237_2 : C := (.seq (.seq (.reg 0 none [m 11 (.t 2) 0, o 12 (.bin .gtr) [.t 11, .c (ci 0)] 1, m 13 (.t 12) 2, ⟨some 14, .mov, [.t 8], some (13, true), 0, 3⟩, ⟨some 15, .mov, [.t 1], some (13, true), 0, 4⟩, ⟨some 16, .mov, [.t 2], some (13, true), 0, 5⟩, ⟨some 17, .bin .add, [.t 15, .t 16], some (13, true), 0, 6⟩, ⟨some 18, .bin .sub, [.t 17, .c (ci 1)], some (13, true), 0, 7⟩, ⟨some 19, .bin .quo, [.t 18, .c (ci 16)], some (13, true), 0, 8⟩, ⟨some 20, .bin .leq, [.t 14, .t 19], some (13, true), 0, 9⟩, o 21 .pick [.t 13, .t 20, .c cf] 10]) (.cond (.t 21) .skip (.exit 0))) (.seq (.blk 1 (.seq (.reg 0 none [o 24 (.load true 2) [.t 3] 0, m 25 (.t 8) 1, o 26 (.call 283) [.t 24, .t 25] 2, o 27 (.bin .lss) [.t 26, .c (ci 0)] 3]) (.cond (.t 27) (.reg 0 none [m 28 (.t 7) 0, o 29 (.bin .add) [.t 28, .c (ci 1)] 1, m 7 (.t 29) 2]) .skip))) (.reg 0 none [m 22 (.t 8) 0, o 23 (.bin .add) [.t 22, .c (ci 1)] 1, m 8 (.t 23) 2])))
def c237_s1 : C := (.seq (.reg 0 none [m 30 (.t 7) 0, m 6 (.t 30) 1]) .ret)
def c237_1 : C := (.seq (.reg 1 none [o 3 (.box 0) [.t 0] 0, m 6 (.c (ci 0)) 1]) (.seq (.reg 0 none [m 7 (.c (ci 0)) 0]) (.seq (.seq (.reg 0 none [m 9 (.t 1) 0, o 10 (.bin .quo) [.t 9, .c (ci 16)] 1, m 8 (.t 10) 2]) (.blk 0 (.loop 4294967694 false c237_2))) c237_s1)))
def c237 : Fn := { fid := 237, np := 3, ntmps := 31, body := (.jn 2147483655 c237_1), res := [.tmp 6] }
def d237_1 (c : Cx) (t0 t1 t2 : V) (H : List Blk) : X := stepK c.pc c.ic c.n (.jn 2147483655 c237_1) (cn 0 31 [(0, t0), (1, t1), (2, t2)]) H (kTop c237.res)
def k237_1 (c : Cx) : KT := thenK (stepK c.pc c.ic c.n c237_s1) (kTop c237.res)
def k237_2 (c : Cx) : KT := blkK 0 (k237_1 c)
def d237_2 (c : Cx) (m n2 : Nat) (t1 t2 t3 t7 t8 : V) (H : List Blk) : X := jnK (loopsK (stepK c.pc c.ic c.n c237_2) 4294967694 false n2 m) (cn 0 31 [(1, t1), (2, t2), (3, t3), (7, t7), (8, t8)]) H (k237_2 c) 4294967694
def b237_2 (c : Cx) (r2 : F5) (n2 : Nat) (t1 t2 t3 t7 t8 : V) (H : List Blk) : X := p (aBin .gtr t2 (ci 0)) fun x1 => (fun (t1 t2 t3 t7 t8 x1 : V) (H : L) (c : Cx) (r2 : F5) => guardK x1 true (fun k => (aMov t8).go H k) H fun x2 H => guardK x1 true (fun k => (aMov t1).go H k) H fun x3 H => guardK x1 true (fun k => (aMov t2).go H k) H fun x4 H => guardK x1 true (fun k => (aBin .add x3 x4).go H k) H fun x5 H => (fun (t1 t2 t3 t7 t8 x1 x2 x5 : V) (H : L) (c : Cx) (r2 : F5) => guardK x1 true (fun k => (aBin .sub x5 (ci 1)).go H k) H fun x6 H => guardK x1 true (fun k => (aBin .quo x6 (ci 16)).go H k) H fun x7 H => guardK x1 true (fun k => (aBin .leq x2 x7).go H k) H fun x8 H => p (aPick x1 x8 cf) fun x9 => condK x9 ((fun (t1 t2 t3 t7 t8 : V) (H : L) (c : Cx) (r2 : F5) => (aLoad true 2 t3).go H fun x10 H => p (aCall c.pc 283 [x10, t8]) fun x11 => p (aBin .lss x11 (ci 0)) fun x12 => condK x12 (p (aBin .add t7 (ci 1)) fun x13 => p (aBin .add t8 (ci 1)) fun x14 => r2 t1 t2 t3 x13 x14 H) (p (aBin .add t8 (ci 1)) fun x15 => r2 t1 t2 t3 t7 x15 H)) t1 t2 t3 t7 t8 H c r2) (some (t7, H))) t1 t2 t3 t7 t8 x1 x2 x5 H c r2) t1 t2 t3 t7 t8 x1 H c r2
def j237_2 (c : Cx) : Nat → Nat → F5 := recN (fun _ _ _ _ _ _ _ => none) fun ih n2 => b237_2 c (ih n2) n2
theorem o237_2 (c : Cx) : d237_2 c = j237_2 c := by
  unfold j237_2
  refine recN_ok (by kernel_rfl) fun m => funext fun n2 => ?_
  funext t1 t2 t3 t7 t8 H
  refine Eq.trans (jnK_eq 4294967694 _ _ H _) ?_
  kernel_rfl
def b237_1 (c : Cx) (j2 : Nat → Nat → F5) (t0 t1 t2 : V) (H : List Blk) : X := newK 1 H fun q H => (aBox (q + 0) t0).go H fun x1 H => p (aBin .quo t1 (ci 16)) fun x2 => j2 c.n H.length t1 t2 x1 (ci 0) x2 H
def j237_1 (c : Cx) : F3 := b237_1 c (j237_2 c)
theorem o237_1 (c : Cx) : d237_1 c = j237_1 c := by
  unfold j237_1; rw [← o237_2]
  funext t0 t1 t2 H
  refine Eq.trans (stepK_jn c.pc c.ic c.n _ H _ 2147483655 c237_1) ?_
  kernel_rfl
def b237_0 (c : Cx) (j1 : F3) (t0 t1 t2 : V) (H : List Blk) : X := j1 t0 t1 t2 H
def s237 (c : Cx) (args : List V) (H : List Blk) : X := argsK 3 args (b237_0 c (j237_1 c) (getT args 0) (getT args 1) (getT args 2) H)
theorem e237 (pc ic n args H) : runK pc ic n c237 args H = s237 ⟨pc, ic, n⟩ args H := by
  unfold s237; rw [← o237_1]
  kernel_rfl
def L237 : Leaf := ⟨c237, fun pc ic n => s237 ⟨pc, ic, n⟩, e237⟩
theorem kk237 : chkFn Go.Proofs.Tryz.prog ET 237 c237 = true := by kernel_rfl

def l238_0 : List O := [o 24 (.fld 1) [.t 3] 0, ⟨some 25, .load false 1, [.t 24], none, 1, 1⟩, o 26 (.load true 2) [.t 3] 2, m 27 (.t 8) 3, m 32 (.t 1) 8, m 33 (.t 7) 9, ⟨some 34, .bin .add, [.t 32, .t 33], none, 48, 10⟩, ⟨some 35, .bin .rem, [.t 34, .c (ci 16)], none, 112, 11⟩, m 36 (.t 2) 12, m 37 (.t 7) 13, ⟨some 38, .ix 1, [.t 36, .t 37], none, 768, 14⟩, ⟨some 39, .load false 1, [.t 38], none, 1792, 15⟩, ⟨some 28, .icall 10283, [.t 26, .t 27], none, 12, 4⟩, ⟨some 29, .ix 2, [.t 25, .t 28], none, 4111, 5⟩, ⟨some 30, .fld 1, [.t 29], none, 12303, 6⟩, ⟨some 31, .load false 1, [.t 30], none, 28687, 7⟩, ⟨some 40, .ix 1, [.t 31, .t 35], none, 65535, 16⟩, ⟨none, .store 1, [.t 40, .t 39], none, 131071, 17⟩]
def c238_2 : C := (.seq (.seq (.reg 0 none [m 11 (.t 7) 0, m 12 (.t 2) 1, o 13 (.len 1) [.t 12] 2, o 14 (.bin .lss) [.t 11, .t 13] 3]) (.cond (.t 14) .skip (.exit 0))) (.seq (.blk 1 (.seq (.reg 0 none [m 17 (.t 1) 0, m 18 (.t 7) 1, o 19 (.bin .add) [.t 17, .t 18] 2, o 20 (.bin .quo) [.t 19, .c (ci 16)] 3, m 8 (.t 20) 4]) (.seq (.reg 0 none [o 21 (.load true 2) [.t 3] 0, m 22 (.t 8) 1, o 23 (.icall 10284) [.t 21, .t 22] 2, ⟨none, .store 2, [.t 3, .t 23], none, 0, 3⟩]) (.reg 0 (some ⟨false, [], 53⟩) l238_0)))) (.reg 0 none [m 15 (.t 7) 0, o 16 (.bin .add) [.t 15, .c (ci 1)] 1, m 7 (.t 16) 2])))
def c238_3 : C := (.seq (.reg 0 none [o 52 (.load true 2) [.t 3] 0, ⟨none, .store 2, [.t 6, .t 52], none, 0, 1⟩]) .ret)
def c238_s1 : C := (.seq (.seq (.reg 0 none [m 41 (.t 2) 0, o 42 (.len 1) [.t 41] 1, o 43 (.bin .gtr) [.t 42, .c (ci 0)] 2]) (.cond (.t 43) (.reg 0 none [o 44 (.fld 0) [.t 3] 0, o 45 (.load false 1) [.t 44] 1, m 46 (.t 1) 2, m 47 (.t 2) 3, o 48 (.len 1) [.t 47] 4, o 49 (.bin .add) [.t 46, .t 48] 5, o 50 .max [.t 45, .t 49] 6, o 51 (.fld 0) [.t 3] 7, ⟨none, .store 1, [.t 51, .t 50], none, 0, 8⟩]) .skip)) (.jn 27021597764223048 c238_3))
def c238_1 : C := (.seq (.reg 2 none [o 3 (.box 0) [.t 0] 0, o 6 (.alloc 1 [(ci 0), .nilS]) [] 1]) (.seq (.reg 0 none [o 9 (.load true 2) [.t 3] 0, o 10 (.icall 10102) [.t 9] 1, ⟨none, .store 2, [.t 3, .t 10], none, 0, 2⟩]) (.seq (.seq (.reg 0 none [m 7 (.c (ci 0)) 0]) (.blk 0 (.loop 18014398509482190 false c238_2))) c238_s1)))
def c238 : Fn := { fid := 238, np := 3, ntmps := 53, body := (.jn 9007199254740999 c238_1), res := [.cell 6 true 2] }
def d238_1 (c : Cx) (t0 t1 t2 : V) (H : List Blk) : X := stepK c.pc c.ic c.n (.jn 9007199254740999 c238_1) (cn 0 53 [(0, t0), (1, t1), (2, t2)]) H (kTop c238.res)
def k238_1 (c : Cx) : KT := thenK (stepK c.pc c.ic c.n c238_s1) (kTop c238.res)
def k238_2 (c : Cx) : KT := blkK 0 (k238_1 c)
def d238_2 (c : Cx) (m n2 : Nat) (t1 t2 t3 t6 t7 : V) (H : List Blk) : X := jnK (loopsK (stepK c.pc c.ic c.n c238_2) 18014398509482190 false n2 m) (cn 0 53 [(1, t1), (2, t2), (3, t3), (6, t6), (7, t7)]) H (k238_2 c) 18014398509482190
def d238_3 (c : Cx) (t3 t6 : V) (H : List Blk) : X := stepK c.pc c.ic c.n (.jn 27021597764223048 c238_3) (cn 0 53 [(3, t3), (6, t6)]) H (kTop c238.res)
def b238_3 (c : Cx) (t3 t6 : V) (H : List Blk) : X := (aLoad true 2 t3).go H fun x1 H => (aStore 2 t6 x1).go H fun _ H => bnd (loadV true 2 t6 H) fun x2 => some (x2, H)
def j238_3 (c : Cx) : F2 := b238_3 c
theorem o238_3 (c : Cx) : d238_3 c = j238_3 c := by
  unfold j238_3
  funext t3 t6 H
  refine Eq.trans (stepK_jn c.pc c.ic c.n _ H _ 27021597764223048 c238_3) ?_
  kernel_rfl
def b238_2 (c : Cx) (r2 : F5) (j3 : F2) (n2 : Nat) (t1 t2 t3 t6 t7 : V) (H : List Blk) : X := (aLen 1 t2).go H fun x1 H => p (aBin .lss t7 x1) fun x2 => condK x2 ((fun (t1 t2 t3 t6 t7 x1 x2 : V) (H : L) (c : Cx) (r2 : F5) => p (aBin .add t1 t7) fun x3 => p (aBin .quo x3 (ci 16)) fun x4 => (aLoad true 2 t3).go H fun x5 H => icK c 10284 [x5, x4] H fun x6 H => (aStore 2 t3 x6).go H fun _ H => drawnK c.pc c.ic l238_0 0 (cn 0 53 [(1, t1), (2, t2), (3, t3), (6, t6), (7, t7), (8, x4), (11, t7), (12, t2), (13, x1), (14, x2), (17, t1), (18, t7), (19, x3), (20, x4), (21, x5), (22, x4), (23, x6)]) H fun ts6 H => p (aBin .add (getT ts6 7) (ci 1)) fun x8 => r2 (getT ts6 1) (getT ts6 2) (getT ts6 3) (getT ts6 6) x8 H) t1 t2 t3 t6 t7 x1 x2 H c r2) ((fun (t1 t2 t3 t6 : V) (H : L) (j3 : F2) => (aLen 1 t2).go H fun x9 H => p (aBin .gtr x9 (ci 0)) fun x10 => condK x10 ((fun (t1 t2 t3 t6 : V) (H : L) (j3 : F2) => p (aFld 0 t3) fun x11 => (aLoad false 1 x11).go H fun x12 H => (aLen 1 t2).go H fun x13 H => p (aBin .add t1 x13) fun x14 => p (aMax x12 [x14]) fun x15 => p (aFld 0 t3) fun x16 => (aStore 1 x16 x15).go H fun _ H => j3 t3 t6 H) t1 t2 t3 t6 H j3) (j3 t3 t6 H)) t1 t2 t3 t6 H j3)
def j238_2 (c : Cx) : Nat → Nat → F5 := recN (fun _ _ _ _ _ _ _ => none) fun ih n2 => b238_2 c (ih n2) (j238_3 c) n2
theorem o238_2 (c : Cx) : d238_2 c = j238_2 c := by
  unfold j238_2
  refine recN_ok (by kernel_rfl) fun m => funext fun n2 => ?_
  simp only [← o238_3]
  funext t1 t2 t3 t6 t7 H
  refine Eq.trans (jnK_eq 18014398509482190 _ _ H _) ?_
  kernel_rfl
def b238_1 (c : Cx) (j2 : Nat → Nat → F5) (t0 t1 t2 : V) (H : List Blk) : X := newK 2 H fun q H => (aBox (q + 0) t0).go H fun x1 H => (aAlloc (q + 1) [(ci 0), .nilS]).go H fun x2 H => (aLoad true 2 x1).go H fun x3 H => icK c 10102 [x3] H fun x4 H => (aStore 2 x1 x4).go H fun _ H => j2 c.n H.length t1 t2 x1 x2 (ci 0) H
def j238_1 (c : Cx) : F3 := b238_1 c (j238_2 c)
theorem o238_1 (c : Cx) : d238_1 c = j238_1 c := by
  unfold j238_1; rw [← o238_2]
  funext t0 t1 t2 H
  refine Eq.trans (stepK_jn c.pc c.ic c.n _ H _ 9007199254740999 c238_1) ?_
  kernel_rfl
def b238_0 (c : Cx) (j1 : F3) (t0 t1 t2 : V) (H : List Blk) : X := j1 t0 t1 t2 H
def s238 (c : Cx) (args : List V) (H : List Blk) : X := argsK 3 args (b238_0 c (j238_1 c) (getT args 0) (getT args 1) (getT args 2) H)
theorem e238 (pc ic n args H) : runK pc ic n c238 args H = s238 ⟨pc, ic, n⟩ args H := by
  unfold s238; rw [← o238_1]
  kernel_rfl
def L238 : Leaf := ⟨c238, fun pc ic n => s238 ⟨pc, ic, n⟩, e238⟩
theorem kk238 : chkFn Go.Proofs.Tryz.prog ET 238 c238 = true := by kernel_rfl

def c239_3 : C := (.seq (.seq (.reg 0 none [m 28 (.t 8) 0, o 29 (.bin .lss) [.t 28, .c (ci 16)] 1]) (.cond (.t 29) .skip (.exit 2))) (.seq (.blk 3 (.seq (.reg 0 none [o 32 (.fld 0) [.t 7] 0, o 33 (.load false 1) [.t 32] 1, o 34 (.bin .mul) [.t 33, .c (ci 16)] 2, m 35 (.t 8) 3, o 36 (.bin .add) [.t 34, .t 35] 4, m 37 (.t 1) 5, o 38 (.bin .geq) [.t 36, .t 37] 6]) (.cond (.t 38) (.reg 0 none [o 39 (.fld 1) [.t 7] 0, o 40 (.load false 1) [.t 39] 1, m 41 (.t 8) 2, o 42 (.ix 1) [.t 40, .t 41] 3, ⟨none, .store 1, [.t 42, .c (.d (.int .u8 0))], none, 0, 4⟩]) .skip))) (.reg 0 none [m 30 (.t 8) 0, o 31 (.bin .add) [.t 30, .c (ci 1)] 1, m 8 (.t 31) 2])))
def c239_s1 : C := (.reg 2 none [m 43 (.t 5) 0, o 44 (.load true 2) [.t 7] 1, o 45 (.bsa 0 2 [(ci 0), .nilS] 1 [0]) [.t 44] 2, o 46 (.appA 1 2 32) [.t 43, .t 45] 3, m 5 (.t 46) 4])
def c239_s2 : C := (.reg 0 none [m 16 (.t 6) 0, o 17 (.bin .add) [.t 16, .c (ci 1)] 1, m 6 (.t 17) 2])
def c239_2 : C := (.seq (.seq (.reg 0 none [m 11 (.t 6) 0, o 12 (.fld 1) [.t 2] 1, o 13 (.load false 1) [.t 12] 2, o 14 (.len 1) [.t 13] 3, o 15 (.bin .lss) [.t 11, .t 14] 4]) (.cond (.t 15) .skip (.exit 0))) (.seq (.blk 1 (.seq (.reg 1 none [o 18 (.fld 1) [.t 2] 0, o 19 (.load false 1) [.t 18] 1, m 20 (.t 6) 2, o 21 (.ix 2) [.t 19, .t 20] 3, o 22 (.load true 2) [.t 21] 4, o 7 (.alloc 0 [(ci 0), .nilS]) [] 5, ⟨none, .store 2, [.t 7, .t 22], none, 0, 6⟩]) (.seq (.seq (.reg 0 none [o 23 (.fld 0) [.t 7] 0, o 24 (.load false 1) [.t 23] 1, o 25 (.bin .mul) [.t 24, .c (ci 16)] 2, m 26 (.t 1) 3, o 27 (.bin .geq) [.t 25, .t 26] 4]) (.cond (.t 27) (.exit 1) .skip)) (.seq (.seq (.reg 0 none [m 8 (.c (ci 0)) 0]) (.blk 2 (.loop 3377699720528374 false c239_3))) c239_s1)))) c239_s2))
def c239_s3 : C := (.seq (.reg 0 none [m 47 (.t 1) 0, m 48 (.t 5) 1, o 49 (.build [(ci 0), .nilS] [(0, 1), (1, 1)]) [.t 47, .t 48] 2, ⟨none, .store 2, [.t 4, .t 49], none, 0, 3⟩]) .ret)
def c239_1 : C := (.seq (.reg 2 none [o 2 (.box 0) [.t 0] 0, o 4 (.alloc 1 [(ci 0), .nilS]) [] 1]) (.seq (.reg 0 none [o 9 (.load true 2) [.t 2] 0, o 10 (.icall 10102) [.t 9] 1, ⟨none, .store 2, [.t 2, .t 10], none, 0, 2⟩]) (.seq (.reg 0 none [m 5 (.c .nilS) 0]) (.seq (.seq (.reg 0 none [m 6 (.c (ci 0)) 0]) (.blk 0 (.loop 2251799813685366 false c239_2))) c239_s3))))
def c239 : Fn := { fid := 239, np := 2, ntmps := 50, body := (.jn 1125899906842627 c239_1), res := [.cell 4 true 2] }
def d239_1 (c : Cx) (t0 t1 : V) (H : List Blk) : X := stepK c.pc c.ic c.n (.jn 1125899906842627 c239_1) (cn 0 50 [(0, t0), (1, t1)]) H (kTop c239.res)
def k239_1 (c : Cx) : KT := thenK (stepK c.pc c.ic c.n c239_s3) (kTop c239.res)
def k239_2 (c : Cx) : KT := blkK 0 (k239_1 c)
def d239_2 (c : Cx) (m n2 : Nat) (t1 t2 t4 t5 t6 : V) (H : List Blk) : X := jnK (loopsK (stepK c.pc c.ic c.n c239_2) 2251799813685366 false n2 m) (cn 0 50 [(1, t1), (2, t2), (4, t4), (5, t5), (6, t6)]) H (k239_2 c) 2251799813685366
def k239_3 (c : Cx) (m2 n2 : Nat) : KT := thenK (fun ts H k => jnK (loopsK (stepK c.pc c.ic c.n c239_2) 2251799813685366 false n2 m2) (maskT 2251799813685366 0 ts) H k 2251799813685366) (k239_2 c)
def k239_4 (c : Cx) (m2 n2 : Nat) : KT := thenK (stepK c.pc c.ic c.n c239_s2) (k239_3 c m2 n2)
def k239_5 (c : Cx) (m2 n2 : Nat) : KT := blkK 1 (k239_4 c m2 n2)
def k239_6 (c : Cx) (m2 n2 : Nat) : KT := thenK (stepK c.pc c.ic c.n c239_s1) (k239_5 c m2 n2)
def k239_7 (c : Cx) (m2 n2 : Nat) : KT := blkK 2 (k239_6 c m2 n2)
def d239_3 (c : Cx) (m2 n2 : Nat) (m n3 : Nat) (t1 t2 t4 t5 t6 t7 t8 : V) (H : List Blk) : X := jnK (loopsK (stepK c.pc c.ic c.n c239_3) 3377699720528374 false n3 m) (cn 0 50 [(1, t1), (2, t2), (4, t4), (5, t5), (6, t6), (7, t7), (8, t8)]) H (k239_7 c m2 n2) 3377699720528374
def b239_3 (c : Cx) (r2 : F5) (r3 : F7) (n3 : Nat) (t1 t2 t4 t5 t6 t7 t8 : V) (H : List Blk) : X := p (aBin .lss t8 (ci 16)) fun x1 => condK x1 ((fun (t1 t2 t4 t5 t6 t7 t8 : V) (H : L) (r3 : F7) => p (aFld 0 t7) fun x2 => (fun (t1 t2 t4 t5 t6 t7 t8 x2 : V) (H : L) (r3 : F7) => (aLoad false 1 x2).go H fun x3 H => p (aBin .mul x3 (ci 16)) fun x4 => p (aBin .add x4 t8) fun x5 => p (aBin .geq x5 t1) fun x6 => condK x6 ((fun (t1 t2 t4 t5 t6 t7 t8 : V) (H : L) (r3 : F7) => p (aFld 1 t7) fun x7 => (aLoad false 1 x7).go H fun x8 H => p (aIx 1 x8 t8) fun x9 => (aStore 1 x9 (.d (.int .u8 0))).go H fun _ H => p (aBin .add t8 (ci 1)) fun x10 => r3 t1 t2 t4 t5 t6 t7 x10 H) t1 t2 t4 t5 t6 t7 t8 H r3) (p (aBin .add t8 (ci 1)) fun x11 => r3 t1 t2 t4 t5 t6 t7 x11 H)) t1 t2 t4 t5 t6 t7 t8 x2 H r3) t1 t2 t4 t5 t6 t7 t8 H r3) ((fun (t1 t2 t4 t5 t6 t7 : V) (H : L) (r2 : F5) => newK 2 H fun q H => (aLoad true 2 t7).go H fun x12 H => (aBsa (q + 0) 2 [(ci 0), .nilS] 1 [0] [x12]).go H fun x13 H => (aAppA (q + 1) 2 32 t5 x13).go H fun x14 H => p (aBin .add t6 (ci 1)) fun x15 => r2 t1 t2 t4 x14 x15 H) t1 t2 t4 t5 t6 t7 H r2)
def j239_3 (c : Cx) (r2 : F5) : Nat → Nat → F7 := recN (fun _ _ _ _ _ _ _ _ _ => none) fun ih n3 => b239_3 c r2 (ih n3) n3
theorem o239_3 (c : Cx) (m2 n2 : Nat) : d239_3 c m2 n2 = j239_3 c (d239_2 c m2 n2) := by
  unfold j239_3
  refine recN_ok (by kernel_rfl) fun m => funext fun n3 => ?_
  funext t1 t2 t4 t5 t6 t7 t8 H
  refine Eq.trans (jnK_eq 3377699720528374 _ _ H _) ?_
  kernel_rfl
def b239_2 (c : Cx) (r2 : F5) (j3 : Nat → Nat → F7) (n2 : Nat) (t1 t2 t4 t5 t6 : V) (H : List Blk) : X := p (aFld 1 t2) fun x1 => (aLoad false 1 x1).go H fun x2 H => (aLen 1 x2).go H fun x3 H => p (aBin .lss t6 x3) fun x4 => condK x4 ((fun (t1 t2 t4 t5 t6 : V) (H : L) (c : Cx) (j3 : Nat → Nat → F7) (r2 : F5) => newK 1 H fun q H => p (aFld 1 t2) fun x5 => (aLoad false 1 x5).go H fun x6 H => (fun (t1 t2 t4 t5 t6 x6 : V) (q : Nat) (H : L) (c : Cx) (j3 : Nat → Nat → F7) (r2 : F5) => p (aIx 2 x6 t6) fun x7 => (aLoad true 2 x7).go H fun x8 H => (aAlloc (q + 0) [(ci 0), .nilS]).go H fun x9 H => (aStore 2 x9 x8).go H fun _ H => p (aFld 0 x9) fun x10 => (aLoad false 1 x10).go H fun x11 H => p (aBin .mul x11 (ci 16)) fun x12 => p (aBin .geq x12 t1) fun x13 => condK x13 (p (aBin .add t6 (ci 1)) fun x14 => r2 t1 t2 t4 t5 x14 H) (j3 c.n H.length t1 t2 t4 t5 t6 x9 (ci 0) H)) t1 t2 t4 t5 t6 x6 q H c j3 r2) t1 t2 t4 t5 t6 H c j3 r2) (p (aBuild [(ci 0), .nilS] [(0, 1), (1, 1)] [t1, t5]) fun x15 => (aStore 2 t4 x15).go H fun _ H => bnd (loadV true 2 t4 H) fun x16 => some (x16, H))
def j239_2 (c : Cx) : Nat → Nat → F5 := recN (fun _ _ _ _ _ _ _ => none) fun ih n2 => b239_2 c (ih n2) (j239_3 c (ih n2)) n2
theorem o239_2 (c : Cx) : d239_2 c = j239_2 c := by
  unfold j239_2
  refine recN_ok (by kernel_rfl) fun m => funext fun n2 => ?_
  simp only [← o239_3]
  funext t1 t2 t4 t5 t6 H
  refine Eq.trans (jnK_eq 2251799813685366 _ _ H _) ?_
  kernel_rfl
def b239_1 (c : Cx) (j2 : Nat → Nat → F5) (t0 t1 : V) (H : List Blk) : X := newK 2 H fun q H => (aBox (q + 0) t0).go H fun x1 H => (aAlloc (q + 1) [(ci 0), .nilS]).go H fun x2 H => (aLoad true 2 x1).go H fun x3 H => icK c 10102 [x3] H fun x4 H => (aStore 2 x1 x4).go H fun _ H => j2 c.n H.length t1 x1 x2 .nilS (ci 0) H
def j239_1 (c : Cx) : F2 := b239_1 c (j239_2 c)
theorem o239_1 (c : Cx) : d239_1 c = j239_1 c := by
  unfold j239_1; rw [← o239_2]
  funext t0 t1 H
  refine Eq.trans (stepK_jn c.pc c.ic c.n _ H _ 1125899906842627 c239_1) ?_
  kernel_rfl
def b239_0 (c : Cx) (j1 : F2) (t0 t1 : V) (H : List Blk) : X := j1 t0 t1 H
def s239 (c : Cx) (args : List V) (H : List Blk) : X := argsK 2 args (b239_0 c (j239_1 c) (getT args 0) (getT args 1) H)
theorem e239 (pc ic n args H) : runK pc ic n c239 args H = s239 ⟨pc, ic, n⟩ args H := by
  unfold s239; rw [← o239_1]
  kernel_rfl
def L239 : Leaf := ⟨c239, fun pc ic n => s239 ⟨pc, ic, n⟩, e239⟩
theorem kk239 : chkFn Go.Proofs.Tryz.prog ET 239 c239 = true := by kernel_rfl

def c240 : Fn := { fid := 240, np := 1, ntmps := 15, body := (.seq (.reg 0 none [m 2 (.c .nilS) 0]) (.seq (.reg 0 none [m 3 (.t 0) 0, o 4 (.bin .shr) [.t 3, .c (.d (.int .u64 24))] 1, o 5 (.toInt .u8) [.t 4] 2, m 6 (.t 0) 3, o 7 (.bin .shr) [.t 6, .c (.d (.int .u64 16))] 4, o 8 (.toInt .u8) [.t 7] 5, m 9 (.t 0) 6, o 10 (.bin .shr) [.t 9, .c (.d (.int .u64 8))] 7, o 11 (.toInt .u8) [.t 10] 8, m 12 (.t 0) 9, o 13 (.toInt .u8) [.t 12] 10, o 14 (.bsl 1 [(.int .u8 0)] 4 [0, 1, 2, 3]) [.t 5, .t 8, .t 11, .t 13] 11, m 2 (.t 14) 12]) .ret)), res := [.tmp 2] }
def b240_0 (c : Cx) (t0 : V) (H : List Blk) : X := p (aBin .shr t0 (.d (.int .u64 24))) fun x1 => p (aToInt .u8 x1) fun x2 => p (aBin .shr t0 (.d (.int .u64 16))) fun x3 => p (aToInt .u8 x3) fun x4 => (fun (t0 x2 x4 : V) (H : L) => p (aBin .shr t0 (.d (.int .u64 8))) fun x5 => p (aToInt .u8 x5) fun x6 => p (aToInt .u8 t0) fun x7 => p (aBsl 1 [(.int .u8 0)] 4 [0, 1, 2, 3] [x2, x4, x6, x7]) fun x8 => some (x8, H)) t0 x2 x4 H
def s240 (c : Cx) (args : List V) (H : List Blk) : X := argsK 1 args (b240_0 c (getT args 0) H)
theorem e240 (pc ic n args H) : runK pc ic n c240 args H = s240 ⟨pc, ic, n⟩ args H := by
  unfold s240
  kernel_rfl
def L240 : Leaf := ⟨c240, fun pc ic n => s240 ⟨pc, ic, n⟩, e240⟩
theorem kk240 : chkFn Go.Proofs.Tryz.prog ET 240 c240 = true := by kernel_rfl

def l241_0 : List O := [m 21 (.t 3) 0, m 22 (.t 0) 1, m 23 (.t 4) 2, ⟨some 24, .ix 3, [.t 22, .t 23], none, 6, 3⟩, ⟨some 25, .fld 0, [.t 24], none, 14, 4⟩, ⟨some 26, .fld 1, [.t 25], none, 30, 5⟩, ⟨some 27, .load false 1, [.t 26], none, 62, 6⟩, ⟨some 28, .call 240, [.t 27], none, 126, 7⟩, ⟨some 29, .app 0 1 1, [.t 21, .t 28], none, 255, 8⟩, m 30 (.t 0) 9, m 31 (.t 4) 10, ⟨some 32, .ix 3, [.t 30, .t 31], none, 1536, 11⟩, ⟨some 33, .fld 2, [.t 32], none, 3584, 12⟩, ⟨some 34, .load false 1, [.t 33], none, 7680, 13⟩, ⟨some 35, .call 240, [.t 34], none, 16383, 14⟩, ⟨some 36, .app 1 1 1, [.t 29, .t 35], none, 32767, 15⟩, ⟨some 3, .mov, [.t 36], none, 65535, 16⟩]
def c241_2 : C := (.seq (.seq (.reg 0 none [m 5 (.t 4) 0, m 6 (.t 0) 1, o 7 (.len 1) [.t 6] 2, o 8 (.bin .lss) [.t 5, .t 7] 3]) (.cond (.t 8) .skip (.exit 0))) (.seq (.blk 1 (.seq (.reg 1 none [m 11 (.t 3) 0, m 12 (.t 0) 1, m 13 (.t 4) 2, o 14 (.ix 3) [.t 12, .t 13] 3, o 15 (.fld 0) [.t 14] 4, o 16 (.fld 0) [.t 15] 5, o 17 (.load false 1) [.t 16] 6, o 18 (.toInt .u8) [.t 17] 7, o 19 (.bsl 1 [(.int .u8 0)] 1 [0]) [.t 18] 8, o 20 (.app 0 1 1) [.t 11, .t 19] 9, m 3 (.t 20) 10]) (.reg 2 (some ⟨false, [], 38⟩) l241_0))) (.reg 0 none [m 9 (.t 4) 0, o 10 (.bin .add) [.t 9, .c (ci 1)] 1, m 4 (.t 10) 2])))
def c241_s1 : C := (.seq (.reg 0 none [m 37 (.t 3) 0, m 2 (.t 37) 1]) .ret)
def c241_1 : C := (.seq (.reg 0 none [m 2 (.c .nilS) 0]) (.seq (.reg 0 none [m 3 (.c .nilS) 0]) (.seq (.seq (.reg 0 none [m 4 (.c (ci 0)) 0]) (.blk 0 (.loop 549755813913 false c241_2))) c241_s1)))
def c241 : Fn := { fid := 241, np := 1, ntmps := 38, body := (.jn 274877906945 c241_1), res := [.tmp 2] }
def d241_1 (c : Cx) (t0 : V) (H : List Blk) : X := stepK c.pc c.ic c.n (.jn 274877906945 c241_1) (cn 0 38 [(0, t0)]) H (kTop c241.res)
def k241_1 (c : Cx) : KT := thenK (stepK c.pc c.ic c.n c241_s1) (kTop c241.res)
def k241_2 (c : Cx) : KT := blkK 0 (k241_1 c)
def d241_2 (c : Cx) (m n2 : Nat) (t0 t3 t4 : V) (H : List Blk) : X := jnK (loopsK (stepK c.pc c.ic c.n c241_2) 549755813913 false n2 m) (cn 0 38 [(0, t0), (3, t3), (4, t4)]) H (k241_2 c) 549755813913
def b241_2 (c : Cx) (r2 : F3) (n2 : Nat) (t0 t3 t4 : V) (H : List Blk) : X := (aLen 1 t0).go H fun x1 H => p (aBin .lss t4 x1) fun x2 => condK x2 ((fun (t0 t3 t4 x1 x2 : V) (H : L) (c : Cx) (r2 : F3) => newK 1 H fun q H => p (aIx 3 t0 t4) fun x3 => p (aFld 0 x3) fun x4 => p (aFld 0 x4) fun x5 => (fun (t0 t3 t4 x1 x2 x3 x4 x5 : V) (q : Nat) (H : L) (c : Cx) (r2 : F3) => (aLoad false 1 x5).go H fun x6 H => p (aToInt .u8 x6) fun x7 => p (aBsl 1 [(.int .u8 0)] 1 [0] [x7]) fun x8 => (aApp (q + 0) 1 1 t3 x8).go H fun x9 H => newK 2 H fun q H => drawnK c.pc c.ic l241_0 q (cn 0 38 [(0, t0), (3, x9), (4, t4), (5, t4), (6, t0), (7, x1), (8, x2), (11, t3), (12, t0), (13, t4), (14, x3), (15, x4), (16, x5), (17, x6), (18, x7), (19, x8), (20, x9)]) H fun ts9 H => p (aBin .add (getT ts9 4) (ci 1)) fun x11 => r2 (getT ts9 0) (getT ts9 3) x11 H) t0 t3 t4 x1 x2 x3 x4 x5 q H c r2) t0 t3 t4 x1 x2 H c r2) (some (t3, H))
def j241_2 (c : Cx) : Nat → Nat → F3 := recN (fun _ _ _ _ _ => none) fun ih n2 => b241_2 c (ih n2) n2
theorem o241_2 (c : Cx) : d241_2 c = j241_2 c := by
  unfold j241_2
  refine recN_ok (by kernel_rfl) fun m => funext fun n2 => ?_
  funext t0 t3 t4 H
  refine Eq.trans (jnK_eq 549755813913 _ _ H _) ?_
  kernel_rfl
def b241_1 (c : Cx) (j2 : Nat → Nat → F3) (t0 : V) (H : List Blk) : X := j2 c.n H.length t0 .nilS (ci 0) H
def j241_1 (c : Cx) : F1 := b241_1 c (j241_2 c)
theorem o241_1 (c : Cx) : d241_1 c = j241_1 c := by
  unfold j241_1; rw [← o241_2]
  funext t0 H
  refine Eq.trans (stepK_jn c.pc c.ic c.n _ H _ 274877906945 c241_1) ?_
  kernel_rfl
def b241_0 (c : Cx) (j1 : F1) (t0 : V) (H : List Blk) : X := j1 t0 H
def s241 (c : Cx) (args : List V) (H : List Blk) : X := argsK 1 args (b241_0 c (j241_1 c) (getT args 0) H)
theorem e241 (pc ic n args H) : runK pc ic n c241 args H = s241 ⟨pc, ic, n⟩ args H := by
  unfold s241; rw [← o241_1]
  kernel_rfl
def L241 : Leaf := ⟨c241, fun pc ic n => s241 ⟨pc, ic, n⟩, e241⟩
theorem kk241 : chkFn Go.Proofs.Tryz.prog ET 241 c241 = true := by kernel_rfl

def c242_2 : C := (.cond (.t 71) (.seq (.reg 0 none [m 4 (.c cf) 0]) .ret) .skip)
def c242_4 : C := (.seq (.reg 0 (some ⟨true, [], 122⟩) [m 90 (.t 7) 0, ⟨some 91, .un .not, [.t 90], none, 1, 1⟩, ⟨some 92, .mov, [.t 91], none, 3, 2⟩, ⟨some 93, .fld 7, [.t 3], some (92, false), 7, 3⟩, ⟨some 94, .load false 1, [.t 93], some (92, false), 15, 4⟩, ⟨some 95, .mov, [.t 5], some (92, false), 7, 5⟩, ⟨some 96, .ix 2, [.t 94, .t 95], some (92, false), 63, 6⟩, ⟨some 97, .fld 0, [.t 96], some (92, false), 127, 7⟩, ⟨some 98, .load false 1, [.t 97], some (92, false), 255, 8⟩, ⟨some 99, .call 286, [.t 98], some (92, false), 511, 9⟩, ⟨some 100, .un .not, [.t 99], some (92, false), 1023, 10⟩, ⟨some 101, .pick, [.t 92, .c ct, .t 100], none, 2047, 11⟩, ⟨some 102, .mov, [.t 101], none, 4095, 12⟩, ⟨some 103, .mov, [.t 5], some (102, false), 8191, 13⟩, ⟨some 104, .bin .gtr, [.t 103, .c (ci 0)], some (102, false), 16383, 14⟩, ⟨some 105, .mov, [.t 104], some (102, false), 32767, 15⟩, ⟨some 106, .fld 7, [.t 3], some (105, true), 65535, 16⟩, ⟨some 107, .load false 1, [.t 106], some (105, true), 131071, 17⟩, ⟨some 108, .mov, [.t 5], some (105, true), 65535, 18⟩, ⟨some 109, .ix 2, [.t 107, .t 108], some (105, true), 524287, 19⟩, ⟨some 110, .fld 0, [.t 109], some (105, true), 1048575, 20⟩, ⟨some 111, .load false 1, [.t 110], some (105, true), 2097151, 21⟩, ⟨some 112, .fld 7, [.t 3], some (105, true), 65535, 22⟩, ⟨some 113, .load false 1, [.t 112], some (105, true), 4259839, 23⟩, ⟨some 114, .mov, [.t 5], some (105, true), 65535, 24⟩, ⟨some 115, .bin .sub, [.t 114, .c (ci 1)], some (105, true), 16842751, 25⟩, ⟨some 116, .ix 2, [.t 113, .t 115], some (105, true), 62980095, 26⟩, ⟨some 117, .fld 0, [.t 116], some (105, true), 130088959, 27⟩, ⟨some 118, .load false 1, [.t 117], some (105, true), 264306687, 28⟩, ⟨some 119, .bin .leq, [.t 111, .t 118], some (105, true), 536870911, 29⟩, ⟨some 120, .pick, [.t 105, .t 119, .c cf], some (102, false), 1073741823, 30⟩, ⟨some 121, .pick, [.t 102, .c ct, .t 120], none, 2147483647, 31⟩]) (.cond (.t 121) (.seq (.reg 0 none [m 4 (.c cf) 0]) .ret) .skip))
def c242_s1 : C := (.reg 0 none [m 77 (.t 5) 0, o 78 (.bin .add) [.t 77, .c (ci 1)] 1, m 5 (.t 78) 2])
def l242_0 : List O := [o 80 (.load true 4) [.t 2] 0, o 81 (.fld 7) [.t 3] 1, ⟨some 82, .load false 1, [.t 81], none, 2, 2⟩, m 83 (.t 5) 3, ⟨some 84, .ix 2, [.t 82, .t 83], none, 14, 4⟩, ⟨some 85, .fld 1, [.t 84], none, 30, 5⟩, ⟨some 86, .load false 1, [.t 85], none, 62, 6⟩, ⟨some 87, .call 16, [.t 80, .t 86], none, 127, 7⟩, ⟨some 79, .mov, [.t 87], none, 255, 8⟩, ⟨some 88, .ext 0, [.t 79], none, 511, 9⟩, ⟨some 89, .ext 1, [.t 79], none, 511, 10⟩, o 6 (.alloc 0 z1) [] 11, ⟨none, .store 8, [.t 6, .t 88], none, 3071, 12⟩, ⟨some 7, .mov, [.t 89], none, 8191, 13⟩]
def c242_3 : C := (.seq (.seq (.reg 0 none [m 72 (.t 5) 0, o 73 (.fld 7) [.t 3] 1, o 74 (.load false 1) [.t 73] 2, o 75 (.len 1) [.t 74] 3, o 76 (.bin .lss) [.t 72, .t 75] 4]) (.cond (.t 76) .skip (.exit 0))) (.seq (.blk 1 (.seq (.reg 1 (some ⟨false, [0, 1, 2, 3, 4, 5, 6, 7, 8, 9, 11, 12, 10, 13], 122⟩) l242_0) (.jn 21267647932558653966460912964485513388 c242_4))) c242_s1))
def c242_s2 : C := (.seq (.reg 0 none [m 4 (.c ct) 0]) .ret)
def c242_s3 : C := (.seq (.seq (.reg 0 none [m 5 (.c (ci 0)) 0]) (.blk 0 (.loop 15950735949418990474845684723364134956 true c242_3))) c242_s2)
def c242_1 : C := (.seq (.reg 2 none [o 2 (.box 0) [.t 0] 0, o 3 (.box 1) [.t 1] 1, m 4 (.c cf) 2]) (.seq (.seq (.reg 0 none [o 8 (.fld 1) [.t 3] 0, o 9 (.load false 1) [.t 8] 1, o 10 (.bin .lss) [.t 9, .c (ci 1)] 2, m 11 (.t 10) 3, ⟨some 12, .fld 1, [.t 3], some (11, false), 0, 4⟩, ⟨some 13, .load false 1, [.t 12], some (11, false), 0, 5⟩, ⟨some 14, .bin .gtr, [.t 13, .c (ci 3)], some (11, false), 0, 6⟩, o 15 .pick [.t 11, .c ct, .t 14] 7, m 16 (.t 15) 8, ⟨some 17, .fld 2, [.t 3], some (16, false), 0, 9⟩, ⟨some 18, .load false 1, [.t 17], some (16, false), 0, 10⟩, ⟨some 19, .bin .lss, [.t 18, .c (ci 0)], some (16, false), 0, 11⟩, o 20 .pick [.t 16, .c ct, .t 19] 12, m 21 (.t 20) 13, ⟨some 22, .fld 2, [.t 3], some (21, false), 0, 14⟩, ⟨some 23, .load false 1, [.t 22], some (21, false), 0, 15⟩, ⟨some 24, .bin .gtr, [.t 23, .c (ci 511)], some (21, false), 0, 16⟩, o 25 .pick [.t 21, .c ct, .t 24] 17, m 26 (.t 25) 18, ⟨some 27, .fld 4, [.t 3], some (26, false), 0, 19⟩, ⟨some 28, .load true 2, [.t 27], some (26, false), 0, 20⟩, ⟨some 29, .call 285, [.t 28], some (26, false), 0, 21⟩, ⟨some 30, .un .not, [.t 29], some (26, false), 0, 22⟩, o 31 .pick [.t 26, .c ct, .t 30] 23]) (.cond (.t 31) (.seq (.reg 0 none [m 4 (.c cf) 0]) .ret) .skip)) (.seq (.seq (.reg 0 none [o 32 (.fld 1) [.t 3] 0, o 33 (.load false 1) [.t 32] 1, o 34 (.bin .neq) [.t 33, .c (ci 1)] 2, m 35 (.t 34) 3, ⟨some 36, .fld 4, [.t 3], some (35, true), 0, 4⟩, ⟨some 37, .fld 0, [.t 36], some (35, true), 0, 5⟩, ⟨some 38, .load false 1, [.t 37], some (35, true), 0, 6⟩, ⟨some 39, .bin .gtr, [.t 38, .c (ci 0)], some (35, true), 0, 7⟩, ⟨some 40, .mov, [.t 39], some (35, true), 0, 8⟩, ⟨some 41, .fld 4, [.t 3], some (40, false), 0, 9⟩, ⟨some 42, .fld 1, [.t 41], some (40, false), 0, 10⟩, ⟨some 43, .load false 1, [.t 42], some (40, false), 0, 11⟩, ⟨some 44, .len 1, [.t 43], some (40, false), 0, 12⟩, ⟨some 45, .bin .gtr, [.t 44, .c (ci 0)], some (40, false), 0, 13⟩, ⟨some 46, .pick, [.t 40, .c ct, .t 45], some (35, true), 0, 14⟩, o 47 .pick [.t 35, .t 46, .c cf] 15, m 48 (.t 47) 16, ⟨some 49, .fld 1, [.t 3], some (48, false), 0, 17⟩, ⟨some 50, .load false 1, [.t 49], some (48, false), 0, 18⟩, ⟨some 51, .bin .neq, [.t 50, .c (ci 2)], some (48, false), 0, 19⟩, ⟨some 52, .mov, [.t 51], some (48, false), 0, 20⟩, ⟨some 53, .fld 7, [.t 3], some (52, true), 0, 21⟩, ⟨some 54, .load false 1, [.t 53], some (52, true), 0, 22⟩, ⟨some 55, .len 1, [.t 54], some (52, true), 0, 23⟩, ⟨some 56, .bin .gtr, [.t 55, .c (ci 0)], some (52, true), 0, 24⟩, ⟨some 57, .pick, [.t 52, .t 56, .c cf], some (48, false), 0, 25⟩, o 58 .pick [.t 48, .c ct, .t 57] 26]) (.cond (.t 58) (.seq (.reg 0 none [m 4 (.c cf) 0]) .ret) .skip)) (.seq (.seq (.reg 0 none [o 59 (.fld 1) [.t 3] 0, o 60 (.load false 1) [.t 59] 1, o 61 (.bin .eql) [.t 60, .c (ci 3)] 2, o 62 (.fld 6) [.t 3] 3, o 63 (.load false 1) [.t 62] 4, o 64 (.bin .neq) [.t 63, .c (.d (.str []))] 5, o 65 (.eqn 3 true) [.t 61, .t 64] 6, m 66 (.t 65) 7, ⟨some 67, .fld 6, [.t 3], some (66, false), 0, 8⟩, ⟨some 68, .load false 1, [.t 67], some (66, false), 0, 9⟩, ⟨some 69, .len 0, [.t 68], some (66, false), 0, 10⟩, ⟨some 70, .bin .gtr, [.t 69, .c (ci 120)], some (66, false), 0, 11⟩, o 71 .pick [.t 66, .c ct, .t 70] 12]) (.jn 10633823966279329344413697917065363468 c242_2)) c242_s3))))
def c242 : Fn := { fid := 242, np := 2, ntmps := 122, body := (.jn 5316911983139663491615228241121378307 c242_1), res := [.tmp 4] }
def d242_1 (c : Cx) (t0 t1 : V) (H : List Blk) : X := stepK c.pc c.ic c.n (.jn 5316911983139663491615228241121378307 c242_1) (cn 0 122 [(0, t0), (1, t1)]) H (kTop c242.res)
def k242_1 (c : Cx) : KT := thenK (stepK c.pc c.ic c.n c242_s3) (kTop c242.res)
def d242_2 (c : Cx) (t2 t3 t71 : V) (H : List Blk) : X := stepK c.pc c.ic c.n (.jn 10633823966279329344413697917065363468 c242_2) (cn 0 122 [(2, t2), (3, t3), (71, t71)]) H (k242_1 c)
def k242_2 (c : Cx) : KT := thenK (stepK c.pc c.ic c.n c242_s2) (kTop c242.res)
def k242_3 (c : Cx) : KT := blkK 0 (k242_2 c)
def d242_3 (c : Cx) (m n3 : Nat) (t2 t3 t5 : V) (H : List Blk) : X := jnK (loopsK (stepK c.pc c.ic c.n c242_3) 15950735949418990474845684723364134956 true n3 m) (cn 0 122 [(2, t2), (3, t3), (5, t5)]) H (k242_3 c) 15950735949418990474845684723364134956
def k242_4 (c : Cx) (m3 n3 : Nat) : KT := thenK (fun ts H k => jnK (loopsK (stepK c.pc c.ic c.n c242_3) 15950735949418990474845684723364134956 true n3 m3) (maskT 15950735949418990474845684723364134956 0 ts) H k 15950735949418990474845684723364134956) (k242_3 c)
def k242_5 (c : Cx) (m3 n3 : Nat) : KT := thenK (stepK c.pc c.ic c.n c242_s1) (k242_4 c m3 n3)
def k242_6 (c : Cx) (m3 n3 : Nat) : KT := blkK 1 (k242_5 c m3 n3)
def d242_4 (c : Cx) (m3 n3 : Nat) (t2 t3 t5 t7 : V) (H : List Blk) : X := stepK c.pc c.ic c.n (.jn 21267647932558653966460912964485513388 c242_4) (cn 0 122 [(2, t2), (3, t3), (5, t5), (7, t7)]) H (k242_6 c m3 n3)
def b242_4 (c : Cx) (r3 : F3) (t2 t3 t5 t7 : V) (H : List Blk) : X := p (aUn .not t7) fun x1 => (fun (t2 t3 t5 x1 : V) (H : L) (c : Cx) (r3 : F3) => guardK x1 false (fun k => (aFld 7 t3).go H k) H fun x2 H => guardK x1 false (fun k => (aLoad false 1 x2).go H k) H fun x3 H => guardK x1 false (fun k => (aMov t5).go H k) H fun x4 H => guardK x1 false (fun k => (aIx 2 x3 x4).go H k) H fun x5 H => (fun (t2 t3 t5 x1 x5 : V) (H : L) (c : Cx) (r3 : F3) => guardK x1 false (fun k => (aFld 0 x5).go H k) H fun x6 H => guardK x1 false (fun k => (aLoad false 1 x6).go H k) H fun x7 H => guardK x1 false (fun k => (aCall c.pc 286 [x7]).go H k) H fun x8 H => guardK x1 false (fun k => (aUn .not x8).go H k) H fun x9 H => (fun (t2 t3 t5 x1 x9 : V) (H : L) (r3 : F3) => p (aPick x1 ct x9) fun x10 => guardK x10 false (fun k => (aMov t5).go H k) H fun x11 H => guardK x10 false (fun k => (aBin .gtr x11 (ci 0)).go H k) H fun x12 H => guardK x10 false (fun k => (aMov x12).go H k) H fun x13 H => (fun (t2 t3 t5 x10 x13 : V) (H : L) (r3 : F3) => guardK x13 true (fun k => (aFld 7 t3).go H k) H fun x14 H => guardK x13 true (fun k => (aLoad false 1 x14).go H k) H fun x15 H => guardK x13 true (fun k => (aMov t5).go H k) H fun x16 H => guardK x13 true (fun k => (aIx 2 x15 x16).go H k) H fun x17 H => (fun (t2 t3 t5 x10 x13 x17 : V) (H : L) (r3 : F3) => guardK x13 true (fun k => (aFld 0 x17).go H k) H fun x18 H => guardK x13 true (fun k => (aLoad false 1 x18).go H k) H fun x19 H => guardK x13 true (fun k => (aFld 7 t3).go H k) H fun x20 H => guardK x13 true (fun k => (aLoad false 1 x20).go H k) H fun x21 H => (fun (t2 t3 t5 x10 x13 x19 x21 : V) (H : L) (r3 : F3) => guardK x13 true (fun k => (aMov t5).go H k) H fun x22 H => guardK x13 true (fun k => (aBin .sub x22 (ci 1)).go H k) H fun x23 H => guardK x13 true (fun k => (aIx 2 x21 x23).go H k) H fun x24 H => guardK x13 true (fun k => (aFld 0 x24).go H k) H fun x25 H => (fun (t2 t3 t5 x10 x13 x19 x25 : V) (H : L) (r3 : F3) => guardK x13 true (fun k => (aLoad false 1 x25).go H k) H fun x26 H => guardK x13 true (fun k => (aBin .leq x19 x26).go H k) H fun x27 H => guardK x10 false (fun k => (aPick x13 x27 cf).go H k) H fun x28 H => p (aPick x10 ct x28) fun x29 => condK x29 (some (cf, H)) (p (aBin .add t5 (ci 1)) fun x30 => r3 t2 t3 x30 H)) t2 t3 t5 x10 x13 x19 x25 H r3) t2 t3 t5 x10 x13 x19 x21 H r3) t2 t3 t5 x10 x13 x17 H r3) t2 t3 t5 x10 x13 H r3) t2 t3 t5 x1 x9 H r3) t2 t3 t5 x1 x5 H c r3) t2 t3 t5 x1 H c r3
def j242_4 (c : Cx) (r3 : F3) : F4 := b242_4 c r3
theorem o242_4 (c : Cx) (m3 n3 : Nat) : d242_4 c m3 n3 = j242_4 c (d242_3 c m3 n3) := by
  unfold j242_4
  funext t2 t3 t5 t7 H
  refine Eq.trans (stepK_jn c.pc c.ic c.n _ H _ 21267647932558653966460912964485513388 c242_4) ?_
  kernel_rfl
def b242_3 (c : Cx) (j4 : F4) (n3 : Nat) (t2 t3 t5 : V) (H : List Blk) : X := bnd (trimF true n3 [t2, t3, t5] H) fun H => p (aFld 7 t3) fun x1 => (aLoad false 1 x1).go H fun x2 H => (aLen 1 x2).go H fun x3 H => p (aBin .lss t5 x3) fun x4 => condK x4 ((fun (t2 t3 t5 x1 x2 x3 x4 : V) (H : L) (c : Cx) (j4 : F4) => newK 1 H fun q H => drawnK c.pc c.ic l242_0 q (cn 0 122 [(2, t2), (3, t3), (5, t5), (72, t5), (73, x1), (74, x2), (75, x3), (76, x4)]) H fun ts4 H => j4 (getT ts4 2) (getT ts4 3) (getT ts4 5) (getT ts4 7) H) t2 t3 t5 x1 x2 x3 x4 H c j4) (some (ct, H))
def j242_3 (c : Cx) : Nat → Nat → F3 := recN (fun _ _ _ _ _ => none) fun ih n3 => b242_3 c (j242_4 c (ih n3)) n3
theorem o242_3 (c : Cx) : d242_3 c = j242_3 c := by
  unfold j242_3
  refine recN_ok (by kernel_rfl) fun m => funext fun n3 => ?_
  simp only [← o242_4]
  funext t2 t3 t5 H
  refine Eq.trans (jnK_eq 15950735949418990474845684723364134956 _ _ H _) ?_
  kernel_rfl
def b242_2 (c : Cx) (j3 : Nat → Nat → F3) (t2 t3 t71 : V) (H : List Blk) : X := condK t71 (some (cf, H)) (j3 c.n H.length t2 t3 (ci 0) H)
def j242_2 (c : Cx) : F3 := b242_2 c (j242_3 c)
theorem o242_2 (c : Cx) : d242_2 c = j242_2 c := by
  unfold j242_2; rw [← o242_3]
  funext t2 t3 t71 H
  refine Eq.trans (stepK_jn c.pc c.ic c.n _ H _ 10633823966279329344413697917065363468 c242_2) ?_
  kernel_rfl
def b242_1 (c : Cx) (j2 : F3) (t0 t1 : V) (H : List Blk) : X := newK 2 H fun q H => (aBox (q + 0) t0).go H fun x1 H => (aBox (q + 1) t1).go H fun x2 H => p (aFld 1 x2) fun x3 => (aLoad false 1 x3).go H fun x4 H => p (aBin .lss x4 (ci 1)) fun x5 => guardK x5 false (fun k => (aFld 1 x2).go H k) H fun x6 H => (fun (x1 x2 x5 x6 : V) (H : L) (c : Cx) (j2 : F3) => guardK x5 false (fun k => (aLoad false 1 x6).go H k) H fun x7 H => guardK x5 false (fun k => (aBin .gtr x7 (ci 3)).go H k) H fun x8 H => p (aPick x5 ct x8) fun x9 => guardK x9 false (fun k => (aFld 2 x2).go H k) H fun x10 H => (fun (x1 x2 x9 x10 : V) (H : L) (c : Cx) (j2 : F3) => guardK x9 false (fun k => (aLoad false 1 x10).go H k) H fun x11 H => guardK x9 false (fun k => (aBin .lss x11 (ci 0)).go H k) H fun x12 H => p (aPick x9 ct x12) fun x13 => guardK x13 false (fun k => (aFld 2 x2).go H k) H fun x14 H => (fun (x1 x2 x13 x14 : V) (H : L) (c : Cx) (j2 : F3) => guardK x13 false (fun k => (aLoad false 1 x14).go H k) H fun x15 H => guardK x13 false (fun k => (aBin .gtr x15 (ci 511)).go H k) H fun x16 H => p (aPick x13 ct x16) fun x17 => guardK x17 false (fun k => (aFld 4 x2).go H k) H fun x18 H => (fun (x1 x2 x17 x18 : V) (H : L) (c : Cx) (j2 : F3) => guardK x17 false (fun k => (aLoad true 2 x18).go H k) H fun x19 H => guardK x17 false (fun k => (aCall c.pc 285 [x19]).go H k) H fun x20 H => guardK x17 false (fun k => (aUn .not x20).go H k) H fun x21 H => p (aPick x17 ct x21) fun x22 => condK x22 (some (cf, H)) ((fun (x1 x2 : V) (H : L) (j2 : F3) => p (aFld 1 x2) fun x23 => (fun (x1 x2 x23 : V) (H : L) (j2 : F3) => (aLoad false 1 x23).go H fun x24 H => p (aBin .neq x24 (ci 1)) fun x25 => guardK x25 true (fun k => (aFld 4 x2).go H k) H fun x26 H => guardK x25 true (fun k => (aFld 0 x26).go H k) H fun x27 H => (fun (x1 x2 x25 x27 : V) (H : L) (j2 : F3) => guardK x25 true (fun k => (aLoad false 1 x27).go H k) H fun x28 H => guardK x25 true (fun k => (aBin .gtr x28 (ci 0)).go H k) H fun x29 H => guardK x25 true (fun k => (aMov x29).go H k) H fun x30 H => guardK x30 false (fun k => (aFld 4 x2).go H k) H fun x31 H => (fun (x1 x2 x25 x30 x31 : V) (H : L) (j2 : F3) => guardK x30 false (fun k => (aFld 1 x31).go H k) H fun x32 H => guardK x30 false (fun k => (aLoad false 1 x32).go H k) H fun x33 H => guardK x30 false (fun k => (aLen 1 x33).go H k) H fun x34 H => guardK x30 false (fun k => (aBin .gtr x34 (ci 0)).go H k) H fun x35 H => (fun (x1 x2 x25 x30 x35 : V) (H : L) (j2 : F3) => guardK x25 true (fun k => (aPick x30 ct x35).go H k) H fun x36 H => p (aPick x25 x36 cf) fun x37 => guardK x37 false (fun k => (aFld 1 x2).go H k) H fun x38 H => guardK x37 false (fun k => (aLoad false 1 x38).go H k) H fun x39 H => (fun (x1 x2 x37 x39 : V) (H : L) (j2 : F3) => guardK x37 false (fun k => (aBin .neq x39 (ci 2)).go H k) H fun x40 H => guardK x37 false (fun k => (aMov x40).go H k) H fun x41 H => guardK x41 true (fun k => (aFld 7 x2).go H k) H fun x42 H => guardK x41 true (fun k => (aLoad false 1 x42).go H k) H fun x43 H => (fun (x1 x2 x37 x41 x43 : V) (H : L) (j2 : F3) => guardK x41 true (fun k => (aLen 1 x43).go H k) H fun x44 H => guardK x41 true (fun k => (aBin .gtr x44 (ci 0)).go H k) H fun x45 H => guardK x37 false (fun k => (aPick x41 x45 cf).go H k) H fun x46 H => p (aPick x37 ct x46) fun x47 => condK x47 (some (cf, H)) ((fun (x1 x2 : V) (H : L) (j2 : F3) => p (aFld 1 x2) fun x48 => (aLoad false 1 x48).go H fun x49 H => p (aBin .eql x49 (ci 3)) fun x50 => p (aFld 6 x2) fun x51 => (fun (x1 x2 x50 x51 : V) (H : L) (j2 : F3) => (aLoad false 1 x51).go H fun x52 H => p (aBin .neq x52 (.d (.str []))) fun x53 => p (aEqn 3 true x50 x53) fun x54 => guardK x54 false (fun k => (aFld 6 x2).go H k) H fun x55 H => (fun (x1 x2 x54 x55 : V) (H : L) (j2 : F3) => guardK x54 false (fun k => (aLoad false 1 x55).go H k) H fun x56 H => guardK x54 false (fun k => (aLen 0 x56).go H k) H fun x57 H => guardK x54 false (fun k => (aBin .gtr x57 (ci 120)).go H k) H fun x58 H => p (aPick x54 ct x58) fun x59 => j2 x1 x2 x59 H) x1 x2 x54 x55 H j2) x1 x2 x50 x51 H j2) x1 x2 H j2)) x1 x2 x37 x41 x43 H j2) x1 x2 x37 x39 H j2) x1 x2 x25 x30 x35 H j2) x1 x2 x25 x30 x31 H j2) x1 x2 x25 x27 H j2) x1 x2 x23 H j2) x1 x2 H j2)) x1 x2 x17 x18 H c j2) x1 x2 x13 x14 H c j2) x1 x2 x9 x10 H c j2) x1 x2 x5 x6 H c j2
def j242_1 (c : Cx) : F2 := b242_1 c (j242_2 c)
theorem o242_1 (c : Cx) : d242_1 c = j242_1 c := by
  unfold j242_1; rw [← o242_2]
  funext t0 t1 H
  refine Eq.trans (stepK_jn c.pc c.ic c.n _ H _ 5316911983139663491615228241121378307 c242_1) ?_
  kernel_rfl
def b242_0 (c : Cx) (j1 : F2) (t0 t1 : V) (H : List Blk) : X := j1 t0 t1 H
def s242 (c : Cx) (args : List V) (H : List Blk) : X := argsK 2 args (b242_0 c (j242_1 c) (getT args 0) (getT args 1) H)
theorem e242 (pc ic n args H) : runK pc ic n c242 args H = s242 ⟨pc, ic, n⟩ args H := by
  unfold s242; rw [← o242_1]
  kernel_rfl
def L242 : Leaf := ⟨c242, fun pc ic n => s242 ⟨pc, ic, n⟩, e242⟩
theorem kk242 : chkFn Go.Proofs.Tryz.prog ET 242 c242 = true := by kernel_rfl

def c243_3 : C := (.seq (.seq (.reg 0 none [m 15 (.t 7) 0, o 16 (.fld 3) [.t 2] 1, o 17 (.load false 1) [.t 16] 2, m 18 (.t 6) 3, o 19 (.ix 8) [.t 17, .t 18] 4, o 20 (.fld 7) [.t 19] 5, o 21 (.load false 1) [.t 20] 6, o 22 (.len 1) [.t 21] 7, o 23 (.bin .lss) [.t 15, .t 22] 8]) (.cond (.t 23) .skip (.exit 2))) (.seq (.blk 3 (.seq (.reg 0 none [o 26 (.fld 3) [.t 2] 0, o 27 (.load false 1) [.t 26] 1, m 28 (.t 6) 2, o 29 (.ix 8) [.t 27, .t 28] 3, o 30 (.fld 7) [.t 29] 4, o 31 (.load false 1) [.t 30] 5, m 32 (.t 7) 6, o 33 (.ix 2) [.t 31, .t 32] 7, o 34 (.fld 1) [.t 33] 8, o 35 (.load false 1) [.t 34] 9, m 36 (.t 1) 10, o 37 (.bin .eql) [.t 35, .t 36] 11]) (.cond (.t 37) (.reg 0 none [m 38 (.t 5) 0, o 39 (.bin .add) [.t 38, .c (ci 1)] 1, m 5 (.t 39) 2]) .skip))) (.reg 0 none [m 24 (.t 7) 0, o 25 (.bin .add) [.t 24, .c (ci 1)] 1, m 7 (.t 25) 2])))
def c243_s1 : C := (.reg 0 none [m 13 (.t 6) 0, o 14 (.bin .add) [.t 13, .c (ci 1)] 1, m 6 (.t 14) 2])
def c243_2 : C := (.seq (.seq (.reg 0 none [m 8 (.t 6) 0, o 9 (.fld 3) [.t 2] 1, o 10 (.load false 1) [.t 9] 2, o 11 (.len 1) [.t 10] 3, o 12 (.bin .lss) [.t 8, .t 11] 4]) (.cond (.t 12) .skip (.exit 0))) (.seq (.blk 1 (.seq (.reg 0 none [m 7 (.c (ci 0)) 0]) (.blk 2 (.loop 6597069766886 false c243_3)))) c243_s1))
def c243_s2 : C := (.seq (.reg 0 none [m 40 (.t 5) 0, m 4 (.t 40) 1]) .ret)
def c243_1 : C := (.seq (.reg 1 none [o 2 (.box 0) [.t 0] 0, m 4 (.c (ci 0)) 1]) (.seq (.reg 0 none [m 5 (.c (ci 0)) 0]) (.seq (.seq (.reg 0 none [m 6 (.c (ci 0)) 0]) (.blk 0 (.loop 4398046511206 false c243_2))) c243_s2)))
def c243 : Fn := { fid := 243, np := 2, ntmps := 41, body := (.jn 2199023255555 c243_1), res := [.tmp 4] }
def d243_1 (c : Cx) (t0 t1 : V) (H : List Blk) : X := stepK c.pc c.ic c.n (.jn 2199023255555 c243_1) (cn 0 41 [(0, t0), (1, t1)]) H (kTop c243.res)
def k243_1 (c : Cx) : KT := thenK (stepK c.pc c.ic c.n c243_s2) (kTop c243.res)
def k243_2 (c : Cx) : KT := blkK 0 (k243_1 c)
def d243_2 (c : Cx) (m n2 : Nat) (t1 t2 t5 t6 : V) (H : List Blk) : X := jnK (loopsK (stepK c.pc c.ic c.n c243_2) 4398046511206 false n2 m) (cn 0 41 [(1, t1), (2, t2), (5, t5), (6, t6)]) H (k243_2 c) 4398046511206
def k243_3 (c : Cx) (m2 n2 : Nat) : KT := thenK (fun ts H k => jnK (loopsK (stepK c.pc c.ic c.n c243_2) 4398046511206 false n2 m2) (maskT 4398046511206 0 ts) H k 4398046511206) (k243_2 c)
def k243_4 (c : Cx) (m2 n2 : Nat) : KT := thenK (stepK c.pc c.ic c.n c243_s1) (k243_3 c m2 n2)
def k243_5 (c : Cx) (m2 n2 : Nat) : KT := blkK 1 (k243_4 c m2 n2)
def k243_6 (c : Cx) (m2 n2 : Nat) : KT := blkK 2 (k243_5 c m2 n2)
def d243_3 (c : Cx) (m2 n2 : Nat) (m n3 : Nat) (t1 t2 t5 t6 t7 : V) (H : List Blk) : X := jnK (loopsK (stepK c.pc c.ic c.n c243_3) 6597069766886 false n3 m) (cn 0 41 [(1, t1), (2, t2), (5, t5), (6, t6), (7, t7)]) H (k243_6 c m2 n2) 6597069766886
def b243_3 (c : Cx) (r2 : F4) (r3 : F5) (n3 : Nat) (t1 t2 t5 t6 t7 : V) (H : List Blk) : X := p (aFld 3 t2) fun x1 => (aLoad false 1 x1).go H fun x2 H => p (aIx 8 x2 t6) fun x3 => (fun (t1 t2 t5 t6 t7 x3 : V) (H : L) (r2 : F4) (r3 : F5) => p (aFld 7 x3) fun x4 => (aLoad false 1 x4).go H fun x5 H => (aLen 1 x5).go H fun x6 H => p (aBin .lss t7 x6) fun x7 => condK x7 ((fun (t1 t2 t5 t6 t7 : V) (H : L) (r3 : F5) => p (aFld 3 t2) fun x8 => (fun (t1 t2 t5 t6 t7 x8 : V) (H : L) (r3 : F5) => (aLoad false 1 x8).go H fun x9 H => p (aIx 8 x9 t6) fun x10 => p (aFld 7 x10) fun x11 => (aLoad false 1 x11).go H fun x12 H => (fun (t1 t2 t5 t6 t7 x12 : V) (H : L) (r3 : F5) => p (aIx 2 x12 t7) fun x13 => p (aFld 1 x13) fun x14 => (aLoad false 1 x14).go H fun x15 H => p (aBin .eql x15 t1) fun x16 => condK x16 (p (aBin .add t5 (ci 1)) fun x17 => p (aBin .add t7 (ci 1)) fun x18 => r3 t1 t2 x17 t6 x18 H) (p (aBin .add t7 (ci 1)) fun x19 => r3 t1 t2 t5 t6 x19 H)) t1 t2 t5 t6 t7 x12 H r3) t1 t2 t5 t6 t7 x8 H r3) t1 t2 t5 t6 t7 H r3) (p (aBin .add t6 (ci 1)) fun x20 => r2 t1 t2 t5 x20 H)) t1 t2 t5 t6 t7 x3 H r2 r3
def j243_3 (c : Cx) (r2 : F4) : Nat → Nat → F5 := recN (fun _ _ _ _ _ _ _ => none) fun ih n3 => b243_3 c r2 (ih n3) n3
theorem o243_3 (c : Cx) (m2 n2 : Nat) : d243_3 c m2 n2 = j243_3 c (d243_2 c m2 n2) := by
  unfold j243_3
  refine recN_ok (by kernel_rfl) fun m => funext fun n3 => ?_
  funext t1 t2 t5 t6 t7 H
  refine Eq.trans (jnK_eq 6597069766886 _ _ H _) ?_
  kernel_rfl
def b243_2 (c : Cx) (j3 : Nat → Nat → F5) (n2 : Nat) (t1 t2 t5 t6 : V) (H : List Blk) : X := p (aFld 3 t2) fun x1 => (aLoad false 1 x1).go H fun x2 H => (aLen 1 x2).go H fun x3 H => p (aBin .lss t6 x3) fun x4 => condK x4 (j3 c.n H.length t1 t2 t5 t6 (ci 0) H) (some (t5, H))
def j243_2 (c : Cx) : Nat → Nat → F4 := recN (fun _ _ _ _ _ _ => none) fun ih n2 => b243_2 c (j243_3 c (ih n2)) n2
theorem o243_2 (c : Cx) : d243_2 c = j243_2 c := by
  unfold j243_2
  refine recN_ok (by kernel_rfl) fun m => funext fun n2 => ?_
  simp only [← o243_3]
  funext t1 t2 t5 t6 H
  refine Eq.trans (jnK_eq 4398046511206 _ _ H _) ?_
  kernel_rfl
def b243_1 (c : Cx) (j2 : Nat → Nat → F4) (t0 t1 : V) (H : List Blk) : X := newK 1 H fun q H => (aBox (q + 0) t0).go H fun x1 H => j2 c.n H.length t1 x1 (ci 0) (ci 0) H
def j243_1 (c : Cx) : F2 := b243_1 c (j243_2 c)
theorem o243_1 (c : Cx) : d243_1 c = j243_1 c := by
  unfold j243_1; rw [← o243_2]
  funext t0 t1 H
  refine Eq.trans (stepK_jn c.pc c.ic c.n _ H _ 2199023255555 c243_1) ?_
  kernel_rfl
def b243_0 (c : Cx) (j1 : F2) (t0 t1 : V) (H : List Blk) : X := j1 t0 t1 H
def s243 (c : Cx) (args : List V) (H : List Blk) : X := argsK 2 args (b243_0 c (j243_1 c) (getT args 0) (getT args 1) H)
theorem e243 (pc ic n args H) : runK pc ic n c243 args H = s243 ⟨pc, ic, n⟩ args H := by
  unfold s243; rw [← o243_1]
  kernel_rfl
def L243 : Leaf := ⟨c243, fun pc ic n => s243 ⟨pc, ic, n⟩, e243⟩
theorem kk243 : chkFn Go.Proofs.Tryz.prog ET 243 c243 = true := by kernel_rfl

def c244_3 : C := (.seq (.reg 0 none [m 60 (.t 14) 0, o 61 (.un .not) [.t 60] 1]) (.cond (.t 61) (.seq (.reg 0 none [m 62 (.t 3) 0, m 8 (.t 62) 1, m 9 (.c cf) 2]) .ret) .skip))
def c244_s1 : C := (.reg 0 none [m 35 (.t 12) 0, o 36 (.bin .add) [.t 35, .c (ci 1)] 1, m 12 (.t 36) 2])
def l244_0 : List O := [o 47 (.load true 4) [.t 4] 0, m 48 (.t 13) 1, m 49 (.t 2) 2, ⟨some 50, .bin .sub, [.t 49, .c (ci 1)], none, 4, 3⟩, o 51 (.bsl 1 [(.int .i64 0)] 0 []) [] 4, m 52 (.t 3) 5, ⟨some 53, .app 0 1 8, [.t 51, .t 52], none, 48, 6⟩, m 54 (.t 13) 7, ⟨some 55, .bsl 1 [(.int .i64 0)] 1 [0], [.t 54], none, 128, 8⟩, ⟨some 56, .app 1 1 8, [.t 53, .t 55], none, 496, 9⟩, ⟨some 57, .call 244, [.t 47, .t 48, .t 50, .t 56], none, 1023, 10⟩, ⟨some 46, .mov, [.t 57], none, 2047, 11⟩, ⟨some 58, .ext 0, [.t 46], none, 4095, 12⟩, ⟨some 59, .ext 1, [.t 46], none, 4095, 13⟩, ⟨some 3, .mov, [.t 58], none, 8191, 14⟩, ⟨some 14, .mov, [.t 59], none, 32767, 15⟩]
def c244_2 : C := (.seq (.seq (.reg 0 none [m 30 (.t 12) 0, o 31 (.fld 7) [.t 10] 1, o 32 (.load false 1) [.t 31] 2, o 33 (.len 1) [.t 32] 3, o 34 (.bin .lss) [.t 30, .t 33] 4]) (.cond (.t 34) .skip (.exit 0))) (.seq (.blk 1 (.seq (.reg 0 none [o 37 (.fld 7) [.t 10] 0, o 38 (.load false 1) [.t 37] 1, m 39 (.t 12) 2, o 40 (.ix 2) [.t 38, .t 39] 3, o 41 (.fld 1) [.t 40] 4, o 42 (.load false 1) [.t 41] 5, m 13 (.t 42) 6]) (.seq (.seq (.reg 0 none [m 43 (.t 3) 0, m 44 (.t 13) 1, o 45 (.call 287) [.t 43, .t 44] 2]) (.cond (.t 45) (.exit 1) .skip)) (.seq (.reg 0 none [m 14 (.c ct) 0]) (.seq (.reg 2 (some ⟨false, [0, 1, 2, 3, 4, 5, 6, 7, 8, 9, 10, 11, 12, 14, 13, 15], 64⟩) l244_0) (.jn 55340232221128676380 c244_3)))))) c244_s1))
def c244_s2 : C := (.seq (.reg 0 none [m 63 (.t 3) 0, m 8 (.t 63) 1, m 9 (.c ct) 2]) .ret)
def c244_1 : C := (.seq (.reg 1 none [o 4 (.box 0) [.t 0] 0, m 8 (.c .nilS) 1, m 9 (.c cf) 2]) (.seq (.reg 1 none [o 16 (.load true 4) [.t 4] 0, m 17 (.t 1) 1, o 18 (.call 16) [.t 16, .t 17] 2, m 15 (.t 18) 3, o 19 (.ext 0) [.t 15] 4, o 20 (.ext 1) [.t 15] 5, o 10 (.alloc 0 z1) [] 6, ⟨none, .store 8, [.t 10, .t 19], none, 0, 7⟩, m 11 (.t 20) 8]) (.seq (.seq (.reg 0 none [m 21 (.t 2) 0, o 22 (.bin .eql) [.t 21, .c (ci 0)] 1, m 23 (.t 22) 2, ⟨some 24, .fld 7, [.t 10], some (23, true), 0, 3⟩, ⟨some 25, .load false 1, [.t 24], some (23, true), 0, 4⟩, ⟨some 26, .len 1, [.t 25], some (23, true), 0, 5⟩, ⟨some 27, .bin .gtr, [.t 26, .c (ci 0)], some (23, true), 0, 6⟩, o 28 .pick [.t 23, .t 27, .c cf] 7]) (.cond (.t 28) (.seq (.reg 0 none [m 29 (.t 3) 0, m 8 (.t 29) 1, m 9 (.c cf) 2]) .ret) .skip)) (.seq (.seq (.reg 0 none [m 12 (.c (ci 0)) 0]) (.blk 0 (.loop 36893488147419108380 true c244_2))) c244_s2))))
def c244 : Fn := { fid := 244, np := 4, ntmps := 64, body := (.jn 18446744073709551631 c244_1), res := [.tmp 8, .tmp 9] }
def d244_1 (c : Cx) (t0 t1 t2 t3 : V) (H : List Blk) : X := stepK c.pc c.ic c.n (.jn 18446744073709551631 c244_1) (cn 0 64 [(0, t0), (1, t1), (2, t2), (3, t3)]) H (kTop c244.res)
def k244_1 (c : Cx) : KT := thenK (stepK c.pc c.ic c.n c244_s2) (kTop c244.res)
def k244_2 (c : Cx) : KT := blkK 0 (k244_1 c)
def d244_2 (c : Cx) (m n2 : Nat) (t2 t3 t4 t10 t12 : V) (H : List Blk) : X := jnK (loopsK (stepK c.pc c.ic c.n c244_2) 36893488147419108380 true n2 m) (cn 0 64 [(2, t2), (3, t3), (4, t4), (10, t10), (12, t12)]) H (k244_2 c) 36893488147419108380
def k244_3 (c : Cx) (m2 n2 : Nat) : KT := thenK (fun ts H k => jnK (loopsK (stepK c.pc c.ic c.n c244_2) 36893488147419108380 true n2 m2) (maskT 36893488147419108380 0 ts) H k 36893488147419108380) (k244_2 c)
def k244_4 (c : Cx) (m2 n2 : Nat) : KT := thenK (stepK c.pc c.ic c.n c244_s1) (k244_3 c m2 n2)
def k244_5 (c : Cx) (m2 n2 : Nat) : KT := blkK 1 (k244_4 c m2 n2)
def d244_3 (c : Cx) (m2 n2 : Nat) (t2 t3 t4 t10 t12 t14 : V) (H : List Blk) : X := stepK c.pc c.ic c.n (.jn 55340232221128676380 c244_3) (cn 0 64 [(2, t2), (3, t3), (4, t4), (10, t10), (12, t12), (14, t14)]) H (k244_5 c m2 n2)
def b244_3 (c : Cx) (r2 : F5) (t2 t3 t4 t10 t12 t14 : V) (H : List Blk) : X := p (aUn .not t14) fun x1 => condK x1 (some (.tup [t3, cf], H)) (p (aBin .add t12 (ci 1)) fun x2 => r2 t2 t3 t4 t10 x2 H)
def j244_3 (c : Cx) (r2 : F5) : F6 := b244_3 c r2
theorem o244_3 (c : Cx) (m2 n2 : Nat) : d244_3 c m2 n2 = j244_3 c (d244_2 c m2 n2) := by
  unfold j244_3
  funext t2 t3 t4 t10 t12 t14 H
  refine Eq.trans (stepK_jn c.pc c.ic c.n _ H _ 55340232221128676380 c244_3) ?_
  kernel_rfl
def b244_2 (c : Cx) (r2 : F5) (j3 : F6) (n2 : Nat) (t2 t3 t4 t10 t12 : V) (H : List Blk) : X := bnd (trimF true n2 [t2, t3, t4, t10, t12] H) fun H => p (aFld 7 t10) fun x1 => (aLoad false 1 x1).go H fun x2 H => (aLen 1 x2).go H fun x3 H => p (aBin .lss t12 x3) fun x4 => condK x4 ((fun (t2 t3 t4 t10 t12 x1 x2 x3 x4 : V) (H : L) (c : Cx) (j3 : F6) (r2 : F5) => p (aFld 7 t10) fun x5 => (fun (t2 t3 t4 t10 t12 x1 x2 x3 x4 x5 : V) (H : L) (c : Cx) (j3 : F6) (r2 : F5) => (aLoad false 1 x5).go H fun x6 H => p (aIx 2 x6 t12) fun x7 => p (aFld 1 x7) fun x8 => (aLoad false 1 x8).go H fun x9 H => p (aCall c.pc 287 [t3, x9]) fun x10 => condK x10 (p (aBin .add t12 (ci 1)) fun x11 => r2 t2 t3 t4 t10 x11 H) ((fun (t2 t3 t4 t10 t12 x1 x2 x3 x4 x5 x6 x7 x8 x9 x10 : V) (H : L) (c : Cx) (j3 : F6) => newK 2 H fun q H => drawnK c.pc c.ic l244_0 q (cn 0 64 [(2, t2), (3, t3), (4, t4), (10, t10), (12, t12), (13, x9), (14, ct), (30, t12), (31, x1), (32, x2), (33, x3), (34, x4), (37, x5), (38, x6), (39, t12), (40, x7), (41, x8), (42, x9), (43, t3), (44, x9), (45, x10)]) H fun ts11 H => j3 (getT ts11 2) (getT ts11 3) (getT ts11 4) (getT ts11 10) (getT ts11 12) (getT ts11 14) H) t2 t3 t4 t10 t12 x1 x2 x3 x4 x5 x6 x7 x8 x9 x10 H c j3)) t2 t3 t4 t10 t12 x1 x2 x3 x4 x5 H c j3 r2) t2 t3 t4 t10 t12 x1 x2 x3 x4 H c j3 r2) (some (.tup [t3, ct], H))
def j244_2 (c : Cx) : Nat → Nat → F5 := recN (fun _ _ _ _ _ _ _ => none) fun ih n2 => b244_2 c (ih n2) (j244_3 c (ih n2)) n2
theorem o244_2 (c : Cx) : d244_2 c = j244_2 c := by
  unfold j244_2
  refine recN_ok (by kernel_rfl) fun m => funext fun n2 => ?_
  simp only [← o244_3]
  funext t2 t3 t4 t10 t12 H
  refine Eq.trans (jnK_eq 36893488147419108380 _ _ H _) ?_
  kernel_rfl
def b244_1 (c : Cx) (j2 : Nat → Nat → F5) (t0 t1 t2 t3 : V) (H : List Blk) : X := newK 1 H fun q H => (aBox (q + 0) t0).go H fun x1 H => newK 1 H fun q H => (aLoad true 4 x1).go H fun x2 H => p (aCall c.pc 16 [x2, t1]) fun x3 => (fun (t2 t3 x1 x3 : V) (q : Nat) (H : L) (c : Cx) (j2 : Nat → Nat → F5) => p (aExt 0 x3) fun x4 => p (aExt 1 x3) fun x5 => (aAlloc (q + 0) z1).go H fun x6 H => (aStore 8 x6 x4).go H fun _ H => p (aBin .eql t2 (ci 0)) fun x7 => guardK x7 true (fun k => (aFld 7 x6).go H k) H fun x8 H => (fun (t2 t3 x1 x6 x7 x8 : V) (H : L) (c : Cx) (j2 : Nat → Nat → F5) => guardK x7 true (fun k => (aLoad false 1 x8).go H k) H fun x9 H => guardK x7 true (fun k => (aLen 1 x9).go H k) H fun x10 H => guardK x7 true (fun k => (aBin .gtr x10 (ci 0)).go H k) H fun x11 H => p (aPick x7 x11 cf) fun x12 => condK x12 (some (.tup [t3, cf], H)) (j2 c.n H.length t2 t3 x1 x6 (ci 0) H)) t2 t3 x1 x6 x7 x8 H c j2) t2 t3 x1 x3 q H c j2
def j244_1 (c : Cx) : F4 := b244_1 c (j244_2 c)
theorem o244_1 (c : Cx) : d244_1 c = j244_1 c := by
  unfold j244_1; rw [← o244_2]
  funext t0 t1 t2 t3 H
  refine Eq.trans (stepK_jn c.pc c.ic c.n _ H _ 18446744073709551631 c244_1) ?_
  kernel_rfl
def b244_0 (c : Cx) (j1 : F4) (t0 t1 t2 t3 : V) (H : List Blk) : X := j1 t0 t1 t2 t3 H
def s244 (c : Cx) (args : List V) (H : List Blk) : X := argsK 4 args (b244_0 c (j244_1 c) (getT args 0) (getT args 1) (getT args 2) (getT args 3) H)
theorem e244 (pc ic n args H) : runK pc ic n c244 args H = s244 ⟨pc, ic, n⟩ args H := by
  unfold s244; rw [← o244_1]
  kernel_rfl
def L244 : Leaf := ⟨c244, fun pc ic n => s244 ⟨pc, ic, n⟩, e244⟩
theorem kk244 : chkFn Go.Proofs.Tryz.prog ET 244 c244 = true := by kernel_rfl

def c246_2 : C := (.seq (.seq (.reg 0 none [m 39 (.t 11) 0, m 40 (.t 2) 1, o 41 (.len 1) [.t 40] 2, o 42 (.bin .lss) [.t 39, .t 41] 3]) (.cond (.t 42) .skip (.exit 0))) (.seq (.blk 1 (.reg 0 (some ⟨true, [], 80⟩) [o 45 (.load true 4) [.t 4] 0, m 46 (.t 2) 1, m 47 (.t 11) 2, ⟨some 48, .ix 2, [.t 46, .t 47], none, 6, 3⟩, ⟨some 49, .load true 2, [.t 48], none, 14, 4⟩, m 50 (.t 10) 5, ⟨some 51, .call 220, [.t 45, .t 49, .t 50], none, 63, 6⟩, ⟨none, .store 4, [.t 4, .t 51], none, 127, 7⟩])) (.reg 0 none [m 43 (.t 11) 0, o 44 (.bin .add) [.t 43, .c (ci 1)] 1, m 11 (.t 44) 2])))
def c246_3 : C := (.seq (.seq (.reg 0 none [m 63 (.t 13) 0, m 64 (.t 12) 1, o 65 (.len 1) [.t 64] 2, o 66 (.bin .lss) [.t 63, .t 65] 3]) (.cond (.t 66) .skip (.exit 2))) (.seq (.blk 3 (.reg 0 (some ⟨true, [], 80⟩) [o 69 (.load true 7) [.t 3] 0, o 70 (.load true 4) [.t 4] 1, o 71 (.load true 7) [.t 3] 2, m 72 (.t 2) 3, m 73 (.t 12) 4, m 74 (.t 13) 5, ⟨some 75, .ix 1, [.t 73, .t 74], none, 48, 6⟩, ⟨some 76, .load false 1, [.t 75], none, 112, 7⟩, ⟨some 77, .call 47, [.t 71, .t 72, .t 76], none, 252, 8⟩, ⟨some 78, .call 246, [.t 69, .t 70, .t 77], none, 511, 9⟩, ⟨none, .store 4, [.t 4, .t 78], none, 1023, 10⟩])) (.reg 0 none [m 67 (.t 13) 0, o 68 (.bin .add) [.t 67, .c (ci 1)] 1, m 13 (.t 68) 2])))
def c246_s1 : C := (.seq (.reg 0 none [o 79 (.load true 4) [.t 4] 0, ⟨none, .store 4, [.t 6, .t 79], none, 0, 1⟩]) .ret)
def c246_s2 : C := (.seq (.seq (.reg 0 none [m 52 (.t 9) 0, o 53 (.un .not) [.t 52] 1]) (.cond (.t 53) (.seq (.reg 0 (some ⟨true, [], 80⟩) [o 54 (.load true 4) [.t 4] 0, m 55 (.t 10) 1, m 56 (.t 2) 2, ⟨some 57, .ix 2, [.t 56, .c (ci 0)], none, 4, 3⟩, ⟨some 58, .load true 2, [.t 57], none, 12, 4⟩, ⟨some 59, .call 216, [.t 54, .t 55, .t 58], none, 31, 5⟩, ⟨none, .store 4, [.t 6, .t 59], none, 63, 6⟩]) .ret) .skip)) (.seq (.reg 0 none [o 60 (.load true 7) [.t 3] 0, m 61 (.t 2) 1, o 62 (.call 104) [.t 60, .t 61] 2, m 12 (.t 62) 3]) (.seq (.seq (.reg 0 none [m 13 (.c (ci 0)) 0]) (.blk 2 (.loop 3626777458843887524130908 false c246_3))) c246_s1)))
def c246_1 : C := (.seq (.reg 3 none [o 3 (.box 0) [.t 0] 0, o 4 (.box 1) [.t 1] 1, o 6 (.alloc 2 z10) [] 2]) (.seq (.reg 0 (some ⟨true, [0, 1, 2, 3, 4, 5, 6, 8, 7, 9], 80⟩) [o 15 (.load true 4) [.t 4] 0, m 16 (.t 2) 1, ⟨some 17, .ix 2, [.t 16, .c (ci 0)], none, 2, 2⟩, ⟨some 18, .load true 2, [.t 17], none, 6, 3⟩, ⟨some 19, .call 14, [.t 15, .t 18], none, 15, 4⟩, ⟨some 14, .mov, [.t 19], none, 31, 5⟩, ⟨some 20, .ext 0, [.t 14], none, 63, 6⟩, ⟨some 21, .ext 1, [.t 14], none, 63, 7⟩, ⟨some 7, .mov, [.t 20], none, 127, 8⟩, ⟨some 8, .mov, [.t 21], none, 511, 9⟩]) (.seq (.reg 0 (some ⟨true, [], 80⟩) [o 22 (.load true 7) [.t 3] 0, m 23 (.t 2) 1, ⟨some 24, .ix 2, [.t 23, .c (ci 0)], none, 2, 2⟩, ⟨some 25, .load true 2, [.t 24], none, 6, 3⟩, ⟨some 26, .call 46, [.t 22, .t 25], none, 15, 4⟩, ⟨some 9, .mov, [.t 26], none, 31, 5⟩]) (.seq (.seq (.reg 0 none [m 27 (.t 8) 0, m 28 (.t 27) 1, ⟨some 29, .mov, [.t 9], some (28, true), 0, 2⟩, ⟨some 30, .un .not, [.t 29], some (28, true), 0, 3⟩, o 31 .pick [.t 28, .t 30, .c cf] 4]) (.cond (.t 31) (.seq (.reg 0 none [o 32 (.load true 4) [.t 4] 0, ⟨none, .store 4, [.t 6, .t 32], none, 0, 1⟩]) .ret) .skip)) (.seq (.reg 0 none [o 33 (.fld 0) [.t 4] 0, o 34 (.load false 1) [.t 33] 1, m 10 (.t 34) 2]) (.seq (.reg 0 none [o 35 (.fld 0) [.t 4] 0, o 36 (.load false 1) [.t 35] 1, o 37 (.bin .add) [.t 36, .c (ci 1)] 2, o 38 (.fld 0) [.t 4] 3, ⟨none, .store 1, [.t 38, .t 37], none, 0, 4⟩]) (.seq (.seq (.reg 0 none [m 11 (.c (ci 0)) 0]) (.blk 0 (.loop 2417851639229258349416028 false c246_2))) c246_s2)))))))
def c246 : Fn := { fid := 246, np := 3, ntmps := 80, body := (.jn 1208925819614629174706183 c246_1), res := [.cell 6 true 4] }
def d246_1 (c : Cx) (t0 t1 t2 : V) (H : List Blk) : X := stepK c.pc c.ic c.n (.jn 1208925819614629174706183 c246_1) (cn 0 80 [(0, t0), (1, t1), (2, t2)]) H (kTop c246.res)
def k246_1 (c : Cx) : KT := thenK (stepK c.pc c.ic c.n c246_s2) (kTop c246.res)
def k246_2 (c : Cx) : KT := blkK 0 (k246_1 c)
def d246_2 (c : Cx) (m n2 : Nat) (t2 t3 t4 t6 t9 t10 t11 : V) (H : List Blk) : X := jnK (loopsK (stepK c.pc c.ic c.n c246_2) 2417851639229258349416028 false n2 m) (cn 0 80 [(2, t2), (3, t3), (4, t4), (6, t6), (9, t9), (10, t10), (11, t11)]) H (k246_2 c) 2417851639229258349416028
def k246_3 (c : Cx) : KT := thenK (stepK c.pc c.ic c.n c246_s1) (kTop c246.res)
def k246_4 (c : Cx) : KT := blkK 2 (k246_3 c)
def d246_3 (c : Cx) (m n3 : Nat) (t2 t3 t4 t6 t12 t13 : V) (H : List Blk) : X := jnK (loopsK (stepK c.pc c.ic c.n c246_3) 3626777458843887524130908 false n3 m) (cn 0 80 [(2, t2), (3, t3), (4, t4), (6, t6), (12, t12), (13, t13)]) H (k246_4 c) 3626777458843887524130908
def b246_3 (c : Cx) (r3 : F6) (n3 : Nat) (t2 t3 t4 t6 t12 t13 : V) (H : List Blk) : X := (aLen 1 t12).go H fun x1 H => p (aBin .lss t13 x1) fun x2 => condK x2 ((fun (t2 t3 t4 t6 t12 t13 : V) (H : L) (c : Cx) (r3 : F6) => (aLoad true 7 t3).go H fun x3 H => (aLoad true 4 t4).go H fun x4 H => (aLoad true 7 t3).go H fun x5 H => p (aIx 1 t12 t13) fun x6 => (fun (t2 t3 t4 t6 t12 t13 x3 x4 x5 x6 : V) (H : L) (c : Cx) (r3 : F6) => (aLoad false 1 x6).go H fun x7 H => p (aCall c.pc 47 [x5, t2, x7]) fun x8 => p (aCall c.pc 246 [x3, x4, x8]) fun x9 => (aStore 4 t4 x9).go H fun _ H => p (aBin .add t13 (ci 1)) fun x10 => r3 t2 t3 t4 t6 t12 x10 H) t2 t3 t4 t6 t12 t13 x3 x4 x5 x6 H c r3) t2 t3 t4 t6 t12 t13 H c r3) ((aLoad true 4 t4).go H fun x11 H => (aStore 4 t6 x11).go H fun _ H => bnd (loadV true 4 t6 H) fun x12 => some (x12, H))
def j246_3 (c : Cx) : Nat → Nat → F6 := recN (fun _ _ _ _ _ _ _ _ => none) fun ih n3 => b246_3 c (ih n3) n3
theorem o246_3 (c : Cx) : d246_3 c = j246_3 c := by
  unfold j246_3
  refine recN_ok (by kernel_rfl) fun m => funext fun n3 => ?_
  funext t2 t3 t4 t6 t12 t13 H
  refine Eq.trans (jnK_eq 3626777458843887524130908 _ _ H _) ?_
  kernel_rfl
def b246_2 (c : Cx) (r2 : F7) (j3 : Nat → Nat → F6) (n2 : Nat) (t2 t3 t4 t6 t9 t10 t11 : V) (H : List Blk) : X := (aLen 1 t2).go H fun x1 H => p (aBin .lss t11 x1) fun x2 => condK x2 ((fun (t2 t3 t4 t6 t9 t10 t11 : V) (H : L) (c : Cx) (r2 : F7) => (aLoad true 4 t4).go H fun x3 H => (fun (t2 t3 t4 t6 t9 t10 t11 x3 : V) (H : L) (c : Cx) (r2 : F7) => p (aIx 2 t2 t11) fun x4 => (aLoad true 2 x4).go H fun x5 H => p (aCall c.pc 220 [x3, x5, t10]) fun x6 => (aStore 4 t4 x6).go H fun _ H => p (aBin .add t11 (ci 1)) fun x7 => r2 t2 t3 t4 t6 t9 t10 x7 H) t2 t3 t4 t6 t9 t10 t11 x3 H c r2) t2 t3 t4 t6 t9 t10 t11 H c r2) ((fun (t2 t3 t4 t6 t9 t10 : V) (H : L) (c : Cx) (j3 : Nat → Nat → F6) => p (aUn .not t9) fun x8 => condK x8 ((fun (t2 t4 t6 t10 : V) (H : L) (c : Cx) => (aLoad true 4 t4).go H fun x9 H => (fun (t2 t6 t10 x9 : V) (H : L) (c : Cx) => p (aIx 2 t2 (ci 0)) fun x10 => (aLoad true 2 x10).go H fun x11 H => p (aCall c.pc 216 [x9, t10, x11]) fun x12 => (aStore 4 t6 x12).go H fun _ H => bnd (loadV true 4 t6 H) fun x13 => some (x13, H)) t2 t6 t10 x9 H c) t2 t4 t6 t10 H c) ((aLoad true 7 t3).go H fun x14 H => p (aCall c.pc 104 [x14, t2]) fun x15 => j3 c.n H.length t2 t3 t4 t6 x15 (ci 0) H)) t2 t3 t4 t6 t9 t10 H c j3)
def j246_2 (c : Cx) : Nat → Nat → F7 := recN (fun _ _ _ _ _ _ _ _ _ => none) fun ih n2 => b246_2 c (ih n2) (j246_3 c) n2
theorem o246_2 (c : Cx) : d246_2 c = j246_2 c := by
  unfold j246_2
  refine recN_ok (by kernel_rfl) fun m => funext fun n2 => ?_
  simp only [← o246_3]
  funext t2 t3 t4 t6 t9 t10 t11 H
  refine Eq.trans (jnK_eq 2417851639229258349416028 _ _ H _) ?_
  kernel_rfl
def b246_1 (c : Cx) (j2 : Nat → Nat → F7) (t0 t1 t2 : V) (H : List Blk) : X := newK 3 H fun q H => (aBox (q + 0) t0).go H fun x1 H => (aBox (q + 1) t1).go H fun x2 H => (aAlloc (q + 2) z10).go H fun x3 H => (aLoad true 4 x2).go H fun x4 H => p (aIx 2 t2 (ci 0)) fun x5 => (fun (t2 x1 x2 x3 x4 x5 : V) (H : L) (c : Cx) (j2 : Nat → Nat → F7) => (aLoad true 2 x5).go H fun x6 H => p (aCall c.pc 14 [x4, x6]) fun x7 => p (aExt 0 x7) fun x8 => p (aExt 1 x7) fun x9 => (aLoad true 7 x1).go H fun x10 H => p (aIx 2 t2 (ci 0)) fun x11 => (aLoad true 2 x11).go H fun x12 H => p (aCall c.pc 46 [x10, x12]) fun x13 => guardK x9 true (fun k => (aMov x13).go H k) H fun x14 H => guardK x9 true (fun k => (aUn .not x14).go H k) H fun x15 H => p (aPick x9 x15 cf) fun x16 => condK x16 ((aLoad true 4 x2).go H fun x17 H => (aStore 4 x3 x17).go H fun _ H => bnd (loadV true 4 x3 H) fun x18 => some (x18, H)) ((fun (t2 x1 x2 x3 x13 : V) (H : L) (c : Cx) (j2 : Nat → Nat → F7) => p (aFld 0 x2) fun x19 => (aLoad false 1 x19).go H fun x20 H => p (aFld 0 x2) fun x21 => (fun (t2 x1 x2 x3 x13 x20 x21 : V) (H : L) (c : Cx) (j2 : Nat → Nat → F7) => (aLoad false 1 x21).go H fun x22 H => p (aBin .add x22 (ci 1)) fun x23 => p (aFld 0 x2) fun x24 => (aStore 1 x24 x23).go H fun _ H => j2 c.n H.length t2 x1 x2 x3 x13 x20 (ci 0) H) t2 x1 x2 x3 x13 x20 x21 H c j2) t2 x1 x2 x3 x13 H c j2)) t2 x1 x2 x3 x4 x5 H c j2
def j246_1 (c : Cx) : F3 := b246_1 c (j246_2 c)
theorem o246_1 (c : Cx) : d246_1 c = j246_1 c := by
  unfold j246_1; rw [← o246_2]
  funext t0 t1 t2 H
  refine Eq.trans (stepK_jn c.pc c.ic c.n _ H _ 1208925819614629174706183 c246_1) ?_
  kernel_rfl
def b246_0 (c : Cx) (j1 : F3) (t0 t1 t2 : V) (H : List Blk) : X := j1 t0 t1 t2 H
def s246 (c : Cx) (args : List V) (H : List Blk) : X := argsK 3 args (b246_0 c (j246_1 c) (getT args 0) (getT args 1) (getT args 2) H)
theorem e246 (pc ic n args H) : runK pc ic n c246 args H = s246 ⟨pc, ic, n⟩ args H := by
  unfold s246; rw [← o246_1]
  kernel_rfl
def L246 : Leaf := ⟨c246, fun pc ic n => s246 ⟨pc, ic, n⟩, e246⟩
theorem kk246 : chkFn Go.Proofs.Tryz.prog ET 246 c246 = true := by kernel_rfl

def c247_1 : C := (.seq (.reg 2 none [o 2 (.box 0) [.t 0] 0, o 3 (.box 1) [.t 1] 1, m 4 (.c cf) 2]) (.seq (.reg 0 none [o 5 (.fld 0) [.t 3] 0, o 6 (.fld 0) [.t 5] 1, o 7 (.load false 1) [.t 6] 2, o 8 (.bin .geq) [.t 7, .c (ci 0)] 3, m 9 (.t 8) 4, ⟨some 10, .fld 0, [.t 3], some (9, true), 0, 5⟩, ⟨some 11, .fld 0, [.t 10], some (9, true), 0, 6⟩, ⟨some 12, .load false 1, [.t 11], some (9, true), 0, 7⟩, ⟨some 13, .bin .lss, [.t 12, .c (ci 8)], some (9, true), 0, 8⟩, o 14 .pick [.t 9, .t 13, .c cf] 9, m 15 (.t 14) 10, ⟨some 16, .fld 0, [.t 3], some (15, true), 0, 11⟩, ⟨some 17, .fld 1, [.t 16], some (15, true), 0, 12⟩, ⟨some 18, .load false 1, [.t 17], some (15, true), 0, 13⟩, ⟨some 19, .bin .geq, [.t 18, .c (ci 1)], some (15, true), 0, 14⟩, o 20 .pick [.t 15, .t 19, .c cf] 15, m 21 (.t 20) 16, ⟨some 22, .fld 0, [.t 3], some (21, true), 0, 17⟩, ⟨some 23, .fld 1, [.t 22], some (21, true), 0, 18⟩, ⟨some 24, .load false 1, [.t 23], some (21, true), 0, 19⟩, ⟨some 25, .bin .leq, [.t 24, .c (ci 2147483647)], some (21, true), 0, 20⟩, o 26 .pick [.t 21, .t 25, .c cf] 21, m 27 (.t 26) 22, ⟨some 28, .fld 2, [.t 3], some (27, true), 0, 23⟩, ⟨some 29, .load false 1, [.t 28], some (27, true), 0, 24⟩, ⟨some 30, .bin .geq, [.t 29, .c (ci 1)], some (27, true), 0, 25⟩, o 31 .pick [.t 27, .t 30, .c cf] 26, m 32 (.t 31) 27, ⟨some 33, .fld 2, [.t 3], some (32, true), 0, 28⟩, ⟨some 34, .load false 1, [.t 33], some (32, true), 0, 29⟩, ⟨some 35, .fld 0, [.t 2], some (32, true), 0, 30⟩, ⟨some 36, .load false 1, [.t 35], some (32, true), 0, 31⟩, ⟨some 37, .bin .lss, [.t 34, .t 36], some (32, true), 0, 32⟩, o 38 .pick [.t 32, .t 37, .c cf] 33, m 4 (.t 38) 34]) .ret))
def c247 : Fn := { fid := 247, np := 2, ntmps := 39, body := (.jn 549755813891 c247_1), res := [.tmp 4] }
def d247_1 (c : Cx) (t0 t1 : V) (H : List Blk) : X := stepK c.pc c.ic c.n (.jn 549755813891 c247_1) (cn 0 39 [(0, t0), (1, t1)]) H (kTop c247.res)
def b247_1 (c : Cx) (t0 t1 : V) (H : List Blk) : X := newK 2 H fun q H => (aBox (q + 0) t0).go H fun x1 H => (aBox (q + 1) t1).go H fun x2 H => p (aFld 0 x2) fun x3 => (fun (x1 x2 x3 : V) (H : L) => p (aFld 0 x3) fun x4 => (aLoad false 1 x4).go H fun x5 H => p (aBin .geq x5 (ci 0)) fun x6 => guardK x6 true (fun k => (aFld 0 x2).go H k) H fun x7 H => (fun (x1 x2 x6 x7 : V) (H : L) => guardK x6 true (fun k => (aFld 0 x7).go H k) H fun x8 H => guardK x6 true (fun k => (aLoad false 1 x8).go H k) H fun x9 H => guardK x6 true (fun k => (aBin .lss x9 (ci 8)).go H k) H fun x10 H => p (aPick x6 x10 cf) fun x11 => (fun (x1 x2 x11 : V) (H : L) => guardK x11 true (fun k => (aFld 0 x2).go H k) H fun x12 H => guardK x11 true (fun k => (aFld 1 x12).go H k) H fun x13 H => guardK x11 true (fun k => (aLoad false 1 x13).go H k) H fun x14 H => guardK x11 true (fun k => (aBin .geq x14 (ci 1)).go H k) H fun x15 H => (fun (x1 x2 x11 x15 : V) (H : L) => p (aPick x11 x15 cf) fun x16 => guardK x16 true (fun k => (aFld 0 x2).go H k) H fun x17 H => guardK x16 true (fun k => (aFld 1 x17).go H k) H fun x18 H => guardK x16 true (fun k => (aLoad false 1 x18).go H k) H fun x19 H => (fun (x1 x2 x16 x19 : V) (H : L) => guardK x16 true (fun k => (aBin .leq x19 (ci 2147483647)).go H k) H fun x20 H => p (aPick x16 x20 cf) fun x21 => guardK x21 true (fun k => (aFld 2 x2).go H k) H fun x22 H => guardK x21 true (fun k => (aLoad false 1 x22).go H k) H fun x23 H => (fun (x1 x2 x21 x23 : V) (H : L) => guardK x21 true (fun k => (aBin .geq x23 (ci 1)).go H k) H fun x24 H => p (aPick x21 x24 cf) fun x25 => guardK x25 true (fun k => (aFld 2 x2).go H k) H fun x26 H => guardK x25 true (fun k => (aLoad false 1 x26).go H k) H fun x27 H => (fun (x1 x25 x27 : V) (H : L) => guardK x25 true (fun k => (aFld 0 x1).go H k) H fun x28 H => guardK x25 true (fun k => (aLoad false 1 x28).go H k) H fun x29 H => guardK x25 true (fun k => (aBin .lss x27 x29).go H k) H fun x30 H => p (aPick x25 x30 cf) fun x31 => some (x31, H)) x1 x25 x27 H) x1 x2 x21 x23 H) x1 x2 x16 x19 H) x1 x2 x11 x15 H) x1 x2 x11 H) x1 x2 x6 x7 H) x1 x2 x3 H
def j247_1 (c : Cx) : F2 := b247_1 c
theorem o247_1 (c : Cx) : d247_1 c = j247_1 c := by
  unfold j247_1
  funext t0 t1 H
  refine Eq.trans (stepK_jn c.pc c.ic c.n _ H _ 549755813891 c247_1) ?_
  kernel_rfl
def b247_0 (c : Cx) (j1 : F2) (t0 t1 : V) (H : List Blk) : X := j1 t0 t1 H
def s247 (c : Cx) (args : List V) (H : List Blk) : X := argsK 2 args (b247_0 c (j247_1 c) (getT args 0) (getT args 1) H)
theorem e247 (pc ic n args H) : runK pc ic n c247 args H = s247 ⟨pc, ic, n⟩ args H := by
  unfold s247; rw [← o247_1]
  kernel_rfl
def L247 : Leaf := ⟨c247, fun pc ic n => s247 ⟨pc, ic, n⟩, e247⟩
theorem kk247 : chkFn Go.Proofs.Tryz.prog ET 247 c247 = true := by kernel_rfl

def c248_1 : C := (.seq (.reg 2 none [o 2 (.box 0) [.t 0] 0, o 3 (.box 1) [.t 1] 1, m 4 (.c cf) 2]) (.seq (.reg 0 none [o 5 (.fld 0) [.t 2] 0, o 6 (.load false 1) [.t 5] 1, o 7 (.fld 0) [.t 3] 2, o 8 (.load false 1) [.t 7] 3, o 9 (.bin .lss) [.t 6, .t 8] 4, m 10 (.t 9) 5, ⟨some 11, .fld 0, [.t 2], some (10, false), 0, 6⟩, ⟨some 12, .load false 1, [.t 11], some (10, false), 0, 7⟩, ⟨some 13, .fld 0, [.t 3], some (10, false), 0, 8⟩, ⟨some 14, .load false 1, [.t 13], some (10, false), 0, 9⟩, ⟨some 15, .bin .eql, [.t 12, .t 14], some (10, false), 0, 10⟩, ⟨some 16, .mov, [.t 15], some (10, false), 0, 11⟩, ⟨some 17, .fld 1, [.t 2], some (16, true), 0, 12⟩, ⟨some 18, .load false 1, [.t 17], some (16, true), 0, 13⟩, ⟨some 19, .fld 1, [.t 3], some (16, true), 0, 14⟩, ⟨some 20, .load false 1, [.t 19], some (16, true), 0, 15⟩, ⟨some 21, .bin .lss, [.t 18, .t 20], some (16, true), 0, 16⟩, ⟨some 22, .pick, [.t 16, .t 21, .c cf], some (10, false), 0, 17⟩, o 23 .pick [.t 10, .c ct, .t 22] 18, m 4 (.t 23) 19]) .ret))
def c248 : Fn := { fid := 248, np := 2, ntmps := 24, body := (.jn 16777219 c248_1), res := [.tmp 4] }
def d248_1 (c : Cx) (t0 t1 : V) (H : List Blk) : X := stepK c.pc c.ic c.n (.jn 16777219 c248_1) (cn 0 24 [(0, t0), (1, t1)]) H (kTop c248.res)
def b248_1 (c : Cx) (t0 t1 : V) (H : List Blk) : X := newK 2 H fun q H => (aBox (q + 0) t0).go H fun x1 H => (aBox (q + 1) t1).go H fun x2 H => p (aFld 0 x1) fun x3 => (aLoad false 1 x3).go H fun x4 H => (fun (x1 x2 x4 : V) (H : L) => p (aFld 0 x2) fun x5 => (aLoad false 1 x5).go H fun x6 H => p (aBin .lss x4 x6) fun x7 => guardK x7 false (fun k => (aFld 0 x1).go H k) H fun x8 H => (fun (x1 x2 x7 x8 : V) (H : L) => guardK x7 false (fun k => (aLoad false 1 x8).go H k) H fun x9 H => guardK x7 false (fun k => (aFld 0 x2).go H k) H fun x10 H => guardK x7 false (fun k => (aLoad false 1 x10).go H k) H fun x11 H => guardK x7 false (fun k => (aBin .eql x9 x11).go H k) H fun x12 H => (fun (x1 x2 x7 x12 : V) (H : L) => guardK x7 false (fun k => (aMov x12).go H k) H fun x13 H => guardK x13 true (fun k => (aFld 1 x1).go H k) H fun x14 H => guardK x13 true (fun k => (aLoad false 1 x14).go H k) H fun x15 H => guardK x13 true (fun k => (aFld 1 x2).go H k) H fun x16 H => (fun (x7 x13 x15 x16 : V) (H : L) => guardK x13 true (fun k => (aLoad false 1 x16).go H k) H fun x17 H => guardK x13 true (fun k => (aBin .lss x15 x17).go H k) H fun x18 H => guardK x7 false (fun k => (aPick x13 x18 cf).go H k) H fun x19 H => p (aPick x7 ct x19) fun x20 => some (x20, H)) x7 x13 x15 x16 H) x1 x2 x7 x12 H) x1 x2 x7 x8 H) x1 x2 x4 H
def j248_1 (c : Cx) : F2 := b248_1 c
theorem o248_1 (c : Cx) : d248_1 c = j248_1 c := by
  unfold j248_1
  funext t0 t1 H
  refine Eq.trans (stepK_jn c.pc c.ic c.n _ H _ 16777219 c248_1) ?_
  kernel_rfl
def b248_0 (c : Cx) (j1 : F2) (t0 t1 : V) (H : List Blk) : X := j1 t0 t1 H
def s248 (c : Cx) (args : List V) (H : List Blk) : X := argsK 2 args (b248_0 c (j248_1 c) (getT args 0) (getT args 1) H)
theorem e248 (pc ic n args H) : runK pc ic n c248 args H = s248 ⟨pc, ic, n⟩ args H := by
  unfold s248; rw [← o248_1]
  kernel_rfl
def L248 : Leaf := ⟨c248, fun pc ic n => s248 ⟨pc, ic, n⟩, e248⟩
theorem kk248 : chkFn Go.Proofs.Tryz.prog ET 248 c248 = true := by kernel_rfl

def c251_1 : C := (.seq (.reg 2 none [o 3 (.box 0) [.t 0] 0, o 4 (.box 1) [.t 1] 1, m 6 (.c cf) 2]) (.seq (.reg 1 none [o 10 (.load true 7) [.t 3] 0, o 11 (.load true 2) [.t 4] 1, o 12 (.call 196) [.t 10, .t 11] 2, o 7 (.alloc 0 z1) [] 3, ⟨none, .store 8, [.t 7, .t 12], none, 0, 4⟩]) (.seq (.reg 0 none [o 14 (.load true 8) [.t 7] 0, m 15 (.t 2) 1, o 16 (.call 90) [.t 14, .t 15] 2, m 13 (.t 16) 3, o 17 (.ext 0) [.t 13] 4, o 18 (.ext 1) [.t 13] 5, m 8 (.t 17) 6, m 9 (.t 18) 7]) (.seq (.reg 0 none [m 19 (.t 9) 0, m 20 (.t 19) 1, ⟨some 21, .fld 1, [.t 7], some (20, true), 0, 2⟩, ⟨some 22, .load false 1, [.t 21], some (20, true), 0, 3⟩, ⟨some 23, .bin .eql, [.t 22, .c (ci 2)], some (20, true), 0, 4⟩, o 24 .pick [.t 20, .t 23, .c cf] 5, m 25 (.t 24) 6, ⟨some 26, .fld 0, [.t 3], some (25, true), 0, 7⟩, ⟨some 27, .load true 2, [.t 26], some (25, true), 0, 8⟩, ⟨some 28, .fld 0, [.t 4], some (25, true), 0, 9⟩, ⟨some 29, .load false 1, [.t 28], some (25, true), 0, 10⟩, ⟨some 30, .call 289, [.t 27, .t 29], some (25, true), 0, 11⟩, o 31 .pick [.t 25, .t 30, .c cf] 12, m 6 (.t 31) 13]) .ret))))
def c251 : Fn := { fid := 251, np := 3, ntmps := 32, body := (.jn 4294967303 c251_1), res := [.tmp 6] }
def d251_1 (c : Cx) (t0 t1 t2 : V) (H : List Blk) : X := stepK c.pc c.ic c.n (.jn 4294967303 c251_1) (cn 0 32 [(0, t0), (1, t1), (2, t2)]) H (kTop c251.res)
def b251_1 (c : Cx) (t0 t1 t2 : V) (H : List Blk) : X := newK 2 H fun q H => (aBox (q + 0) t0).go H fun x1 H => (aBox (q + 1) t1).go H fun x2 H => newK 1 H fun q H => (aLoad true 7 x1).go H fun x3 H => (fun (t2 x1 x2 x3 : V) (q : Nat) (H : L) (c : Cx) => (aLoad true 2 x2).go H fun x4 H => p (aCall c.pc 196 [x3, x4]) fun x5 => (aAlloc (q + 0) z1).go H fun x6 H => (aStore 8 x6 x5).go H fun _ H => (aLoad true 8 x6).go H fun x7 H => p (aCall c.pc 90 [x7, t2]) fun x8 => p (aExt 0 x8) fun x9 => p (aExt 1 x8) fun x10 => guardK x10 true (fun k => (aFld 1 x6).go H k) H fun x11 H => guardK x10 true (fun k => (aLoad false 1 x11).go H k) H fun x12 H => (fun (x1 x2 x10 x12 : V) (H : L) (c : Cx) => guardK x10 true (fun k => (aBin .eql x12 (ci 2)).go H k) H fun x13 H => p (aPick x10 x13 cf) fun x14 => guardK x14 true (fun k => (aFld 0 x1).go H k) H fun x15 H => guardK x14 true (fun k => (aLoad true 2 x15).go H k) H fun x16 H => (fun (x2 x14 x16 : V) (H : L) (c : Cx) => guardK x14 true (fun k => (aFld 0 x2).go H k) H fun x17 H => guardK x14 true (fun k => (aLoad false 1 x17).go H k) H fun x18 H => guardK x14 true (fun k => (aCall c.pc 289 [x16, x18]).go H k) H fun x19 H => p (aPick x14 x19 cf) fun x20 => some (x20, H)) x2 x14 x16 H c) x1 x2 x10 x12 H c) t2 x1 x2 x3 q H c
def j251_1 (c : Cx) : F3 := b251_1 c
theorem o251_1 (c : Cx) : d251_1 c = j251_1 c := by
  unfold j251_1
  funext t0 t1 t2 H
  refine Eq.trans (stepK_jn c.pc c.ic c.n _ H _ 4294967303 c251_1) ?_
  kernel_rfl
def b251_0 (c : Cx) (j1 : F3) (t0 t1 t2 : V) (H : List Blk) : X := j1 t0 t1 t2 H
def s251 (c : Cx) (args : List V) (H : List Blk) : X := argsK 3 args (b251_0 c (j251_1 c) (getT args 0) (getT args 1) (getT args 2) H)
theorem e251 (pc ic n args H) : runK pc ic n c251 args H = s251 ⟨pc, ic, n⟩ args H := by
  unfold s251; rw [← o251_1]
  kernel_rfl
def L251 : Leaf := ⟨c251, fun pc ic n => s251 ⟨pc, ic, n⟩, e251⟩
theorem kk251 : chkFn Go.Proofs.Tryz.prog ET 251 c251 = true := by kernel_rfl

def c252 : Fn := { fid := 252, np := 1, ntmps := 6, body := (.seq (.reg 0 none [m 2 (.c cf) 0]) (.seq (.reg 0 none [m 3 (.t 0) 0, m 4 (.t 0) 1, o 5 (.bin .neq) [.t 3, .t 4] 2, m 2 (.t 5) 3]) .ret)), res := [.tmp 2] }
def b252_0 (c : Cx) (t0 : V) (H : List Blk) : X := p (aBin .neq t0 t0) fun x1 => some (x1, H)
def s252 (c : Cx) (args : List V) (H : List Blk) : X := argsK 1 args (b252_0 c (getT args 0) H)
theorem e252 (pc ic n args H) : runK pc ic n c252 args H = s252 ⟨pc, ic, n⟩ args H := by
  unfold s252
  kernel_rfl
def L252 : Leaf := ⟨c252, fun pc ic n => s252 ⟨pc, ic, n⟩, e252⟩
theorem kk252 : chkFn Go.Proofs.Tryz.prog ET 252 c252 = true := by kernel_rfl

def c253 : Fn := { fid := 253, np := 1, ntmps := 6, body := (.seq (.reg 0 none [m 2 (.c cf) 0]) (.seq (.reg 0 none [m 3 (.t 0) 0, m 4 (.t 0) 1, o 5 (.bin .neq) [.t 3, .t 4] 2, m 2 (.t 5) 3]) .ret)), res := [.tmp 2] }
def b253_0 (c : Cx) (t0 : V) (H : List Blk) : X := p (aBin .neq t0 t0) fun x1 => some (x1, H)
def s253 (c : Cx) (args : List V) (H : List Blk) : X := argsK 1 args (b253_0 c (getT args 0) H)
theorem e253 (pc ic n args H) : runK pc ic n c253 args H = s253 ⟨pc, ic, n⟩ args H := by
  unfold s253
  kernel_rfl
def L253 : Leaf := ⟨c253, fun pc ic n => s253 ⟨pc, ic, n⟩, e253⟩
theorem kk253 : chkFn Go.Proofs.Tryz.prog ET 253 c253 = true := by kernel_rfl

end
end Go.Vm.T
