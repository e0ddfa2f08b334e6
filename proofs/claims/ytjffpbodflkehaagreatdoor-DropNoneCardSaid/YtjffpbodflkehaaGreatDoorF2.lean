/- Functions of the program: the machine's code, plain Lean, their equality; that the code is the program's. Printed by a program of mine. -/
import Derived.Test.YtjffpbodflkehaaGreatDoorZ
import Derived.KernelRfl
set_option maxRecDepth 100000
set_option linter.unusedVariables false
namespace Go.Vm.T
open Go.Vm.I
noncomputable section
def c110_2 : C := (.seq (.seq (.reg 0 none [m 16 (.t 6) 0, m 17 (.t 0) 1, o 18 (.len 1) [.t 17] 2, o 19 (.bin .lss) [.t 16, .t 18] 3]) (.cond (.t 19) .skip (.exit 0))) (.seq (.blk 1 (.seq (.reg 1 none [m 22 (.t 0) 0, m 23 (.t 6) 1, o 24 (.ix 3) [.t 22, .t 23] 2, o 25 (.load true 3) [.t 24] 3, o 7 (.alloc 0 z11) [] 4, ⟨none, .store 3, [.t 7, .t 25], none, 0, 5⟩]) (.seq (.reg 0 none [m 26 (.t 1) 0, o 27 (.load true 3) [.t 7] 1, o 28 .dcall [.t 26, .t 27] 2, o 29 (.un .not) [.t 28] 3]) (.cond (.t 29) (.seq (.reg 0 none [m 30 (.t 0) 0, m 31 (.t 5) 1, o 32 (.load true 3) [.t 7] 2, o 33 (.ix 3) [.t 30, .t 31] 3, ⟨none, .store 3, [.t 33, .t 32], none, 0, 4⟩]) (.reg 0 none [m 34 (.t 5) 0, o 35 (.bin .add) [.t 34, .c (ci 1)] 1, m 5 (.t 35) 2])) .skip)))) (.reg 0 none [m 20 (.t 6) 0, o 21 (.bin .add) [.t 20, .c (ci 1)] 1, m 6 (.t 21) 2])))
def c110_s1 : C := (.seq (.reg 0 none [m 36 (.t 0) 0, m 37 (.t 5) 1, o 38 (.sub 3 true false false) [.t 36, .t 37] 2, ⟨none, .clear 3 z11, [.t 38], none, 0, 3⟩]) (.seq (.reg 0 none [m 39 (.t 0) 0, m 40 (.t 5) 1, o 41 (.sub 3 false true false) [.t 39, .t 40] 2, m 4 (.t 41) 3]) .ret))
def c110_1 : C := (.seq (.reg 0 none [m 4 (.c .nilS) 0]) (.seq (.reg 0 none [m 8 (.t 0) 0, m 9 (.t 1) 1, o 10 (.icall 10188) [.t 8, .t 9] 2, m 5 (.t 10) 3]) (.seq (.seq (.reg 0 none [m 11 (.t 5) 0, o 12 (.bin .eql) [.t 11, .c (ci (-1))] 1]) (.cond (.t 12) (.seq (.reg 0 none [m 13 (.t 0) 0, m 4 (.t 13) 1]) .ret) .skip)) (.seq (.seq (.reg 0 none [m 14 (.t 5) 0, o 15 (.bin .add) [.t 14, .c (ci 1)] 1, m 6 (.t 15) 2]) (.blk 0 (.loop 8796093022307 true c110_2))) c110_s1))))
def c110 : Fn := { fid := 110, np := 2, ntmps := 42, body := (.jn 4398046511107 c110_1), res := [.tmp 4] }
def d110_1 (c : Cx) (t0 t1 : V) (H : List Blk) : X := stepK c.pc c.ic c.n (.jn 4398046511107 c110_1) (cn 0 42 [(0, t0), (1, t1)]) H (kTop c110.res)
def k110_1 (c : Cx) : KT := thenK (stepK c.pc c.ic c.n c110_s1) (kTop c110.res)
def k110_2 (c : Cx) : KT := blkK 0 (k110_1 c)
def d110_2 (c : Cx) (m n2 : Nat) (t0 t1 t5 t6 : V) (H : List Blk) : X := jnK (loopsK (stepK c.pc c.ic c.n c110_2) 8796093022307 true n2 m) (cn 0 42 [(0, t0), (1, t1), (5, t5), (6, t6)]) H (k110_2 c) 8796093022307
def b110_2 (c : Cx) (r2 : F4) (n2 : Nat) (t0 t1 t5 t6 : V) (H : List Blk) : X := bnd (trimF true n2 [t0, t1, t5, t6] H) fun H => (aLen 1 t0).go H fun x1 H => p (aBin .lss t6 x1) fun x2 => condK x2 ((fun (t0 t1 t5 t6 : V) (H : L) (c : Cx) (r2 : F4) => newK 1 H fun q H => (fun (t0 t1 t5 t6 : V) (q : Nat) (H : L) (c : Cx) (r2 : F4) => p (aIx 3 t0 t6) fun x3 => (aLoad true 3 x3).go H fun x4 H => (aAlloc (q + 0) z11).go H fun x5 H => (aStore 3 x5 x4).go H fun _ H => (aLoad true 3 x5).go H fun x6 H => callK c.ic [t1, x6] H fun x7 H => p (aUn .not x7) fun x8 => condK x8 ((fun (t0 t1 t5 t6 x5 : V) (H : L) (r2 : F4) => (aLoad true 3 x5).go H fun x9 H => p (aIx 3 t0 t5) fun x10 => (aStore 3 x10 x9).go H fun _ H => p (aBin .add t5 (ci 1)) fun x11 => p (aBin .add t6 (ci 1)) fun x12 => r2 t0 t1 x11 x12 H) t0 t1 t5 t6 x5 H r2) (p (aBin .add t6 (ci 1)) fun x13 => r2 t0 t1 t5 x13 H)) t0 t1 t5 t6 q H c r2) t0 t1 t5 t6 H c r2) ((aSub 3 true false false t0 [t5]).go H fun x14 H => (aClear 3 z11 x14).go H fun _ H => (aSub 3 false true false t0 [t5]).go H fun x15 H => some (x15, H))
def j110_2 (c : Cx) : Nat → Nat → F4 := recN (fun _ _ _ _ _ _ => none) fun ih n2 => b110_2 c (ih n2) n2
theorem o110_2 (c : Cx) : d110_2 c = j110_2 c := by
  unfold j110_2
  refine recN_ok (by kernel_rfl) fun m => funext fun n2 => ?_
  funext t0 t1 t5 t6 H
  refine Eq.trans (jnK_eq 8796093022307 _ _ H _) ?_
  kernel_rfl
def b110_1 (c : Cx) (j2 : Nat → Nat → F4) (t0 t1 : V) (H : List Blk) : X := icK c 10188 [t0, t1] H fun x1 H => p (aBin .eql x1 (ci (-1))) fun x2 => condK x2 (some (t0, H)) (p (aBin .add x1 (ci 1)) fun x3 => j2 c.n H.length t0 t1 x1 x3 H)
def j110_1 (c : Cx) : F2 := b110_1 c (j110_2 c)
theorem o110_1 (c : Cx) : d110_1 c = j110_1 c := by
  unfold j110_1; rw [← o110_2]
  funext t0 t1 H
  refine Eq.trans (stepK_jn c.pc c.ic c.n _ H _ 4398046511107 c110_1) ?_
  kernel_rfl
def b110_0 (c : Cx) (j1 : F2) (t0 t1 : V) (H : List Blk) : X := j1 t0 t1 H
def s110 (c : Cx) (args : List V) (H : List Blk) : X := argsK 2 args (b110_0 c (j110_1 c) (getT args 0) (getT args 1) H)
theorem e110 (pc ic n args H) : runK pc ic n c110 args H = s110 ⟨pc, ic, n⟩ args H := by
  unfold s110; rw [← o110_1]
  kernel_rfl
def L110 : Leaf := ⟨c110, fun pc ic n => s110 ⟨pc, ic, n⟩, e110⟩
theorem kk110 : chkFn Go.Proofs.Tryz.prog ET 110 c110 = true := by kernel_rfl

def c113_3 : C := (.seq (.reg 0 none [o 22 (.bin .lss) [.t 21, .t 20] 0]) (.seq (.cond (.t 22) .skip (.exit 2)) (.seq (.blk 3 (.seq (.reg 1 none [o 23 (.ix 2) [.t 19, .t 21] 0, o 24 (.load true 2) [.t 23] 1, o 9 (.alloc 0 z6) [] 2, ⟨none, .store 2, [.t 9, .t 24], none, 0, 3⟩]) (.reg 1 none [m 25 (.t 5) 0, o 26 (.fld 0) [.t 9] 1, o 27 (.load false 1) [.t 26] 2, o 28 (.bsl 1 [(.str [])] 1 [0]) [.t 27] 3, o 29 (.appA 0 1 16) [.t 25, .t 28] 4, m 5 (.t 29) 5]))) (.reg 0 none [o 30 (.bin .add) [.t 21, .c (ci 1)] 0, m 21 (.t 30) 1]))))
def c113_s1 : C := (.reg 0 none [o 31 (.bin .add) [.t 12, .c (ci 1)] 0, m 12 (.t 31) 1])
def c113_2 : C := (.seq (.reg 0 none [o 13 (.bin .lss) [.t 12, .t 11] 0]) (.seq (.cond (.t 13) .skip (.exit 0)) (.seq (.blk 1 (.seq (.reg 1 none [o 14 (.ix 2) [.t 10, .t 12] 0, o 15 (.load true 2) [.t 14] 1, o 7 (.alloc 0 [(ci 0), (ci 0)]) [] 2, ⟨none, .store 2, [.t 7, .t 15], none, 0, 3⟩]) (.seq (.reg 0 none [o 16 (.load true 7) [.t 2] 0, o 17 (.load true 2) [.t 7] 1, o 18 (.call 196) [.t 16, .t 17] 2, o 19 (.fldv 7 1 false) [.t 18] 3, o 20 (.len 1) [.t 19] 4, m 21 (.c (ci 0)) 5]) (.blk 2 (.loop 1649271118892 false c113_3))))) c113_s1)))
def c113_s2 : C := (.seq (.reg 0 none [m 32 (.t 5) 0, o 33 (.icall 197) [.t 32] 1]) (.seq (.reg 0 none [m 34 (.t 5) 0, o 35 (.icall 198) [.t 34] 1, m 5 (.t 35) 2]) (.seq (.reg 0 none [m 36 (.t 5) 0, o 37 (.mkF 200) [.t 2, .t 3] 1, o 38 (.icall 199) [.t 36, .t 37] 2, m 4 (.t 38) 3]) .ret)))
def c113_1 : C := (.seq (.reg 2 none [o 2 (.box 0) [.t 0] 0, o 3 (.box 1) [.t 1] 1, m 4 (.c .nilS) 2]) (.seq (.reg 0 none [m 5 (.c .nilS) 0]) (.seq (.seq (.reg 0 none [o 10 (.load false 1) [.t 3] 0, o 11 (.len 1) [.t 10] 1, m 12 (.c (ci 0)) 2]) (.blk 0 (.loop 1099511634988 false c113_2))) c113_s2)))
def c113 : Fn := { fid := 113, np := 2, ntmps := 39, body := (.jn 549755813891 c113_1), res := [.tmp 4] }
def d113_1 (c : Cx) (t0 t1 : V) (H : List Blk) : X := stepK c.pc c.ic c.n (.jn 549755813891 c113_1) (cn 0 39 [(0, t0), (1, t1)]) H (kTop c113.res)
def k113_1 (c : Cx) : KT := thenK (stepK c.pc c.ic c.n c113_s2) (kTop c113.res)
def k113_2 (c : Cx) : KT := blkK 0 (k113_1 c)
def d113_2 (c : Cx) (m n2 : Nat) (t2 t3 t5 t10 t11 t12 : V) (H : List Blk) : X := jnK (loopsK (stepK c.pc c.ic c.n c113_2) 1099511634988 false n2 m) (cn 0 39 [(2, t2), (3, t3), (5, t5), (10, t10), (11, t11), (12, t12)]) H (k113_2 c) 1099511634988
def k113_3 (c : Cx) (m2 n2 : Nat) : KT := thenK (fun ts H k => jnK (loopsK (stepK c.pc c.ic c.n c113_2) 1099511634988 false n2 m2) (maskT 1099511634988 0 ts) H k 1099511634988) (k113_2 c)
def k113_4 (c : Cx) (m2 n2 : Nat) : KT := thenK (stepK c.pc c.ic c.n c113_s1) (k113_3 c m2 n2)
def k113_5 (c : Cx) (m2 n2 : Nat) : KT := blkK 1 (k113_4 c m2 n2)
def k113_6 (c : Cx) (m2 n2 : Nat) : KT := blkK 2 (k113_5 c m2 n2)
def d113_3 (c : Cx) (m2 n2 : Nat) (m n3 : Nat) (t2 t3 t5 t10 t11 t12 t19 t20 t21 : V) (H : List Blk) : X := jnK (loopsK (stepK c.pc c.ic c.n c113_3) 1649271118892 false n3 m) (cn 0 39 [(2, t2), (3, t3), (5, t5), (10, t10), (11, t11), (12, t12), (19, t19), (20, t20), (21, t21)]) H (k113_6 c m2 n2) 1649271118892
def b113_3 (c : Cx) (r2 : F6) (r3 : F9) (n3 : Nat) (t2 t3 t5 t10 t11 t12 t19 t20 t21 : V) (H : List Blk) : X := p (aBin .lss t21 t20) fun x1 => condK x1 ((fun (t2 t3 t5 t10 t11 t12 t19 t20 t21 : V) (H : L) (r3 : F9) => newK 1 H fun q H => (fun (t2 t3 t5 t10 t11 t12 t19 t20 t21 : V) (q : Nat) (H : L) (r3 : F9) => p (aIx 2 t19 t21) fun x2 => (aLoad true 2 x2).go H fun x3 H => (aAlloc (q + 0) z6).go H fun x4 H => (aStore 2 x4 x3).go H fun _ H => newK 1 H fun q H => (fun (t2 t3 t5 t10 t11 t12 t19 t20 t21 x4 : V) (q : Nat) (H : L) (r3 : F9) => p (aFld 0 x4) fun x5 => (aLoad false 1 x5).go H fun x6 H => p (aBsl 1 [(.str [])] 1 [0] [x6]) fun x7 => (aAppA (q + 0) 1 16 t5 x7).go H fun x8 H => p (aBin .add t21 (ci 1)) fun x9 => r3 t2 t3 x8 t10 t11 t12 t19 t20 x9 H) t2 t3 t5 t10 t11 t12 t19 t20 t21 x4 q H r3) t2 t3 t5 t10 t11 t12 t19 t20 t21 q H r3) t2 t3 t5 t10 t11 t12 t19 t20 t21 H r3) (p (aBin .add t12 (ci 1)) fun x10 => r2 t2 t3 t5 t10 t11 x10 H)
def j113_3 (c : Cx) (r2 : F6) : Nat → Nat → F9 := recN (fun _ _ _ _ _ _ _ _ _ _ _ => none) fun ih n3 => b113_3 c r2 (ih n3) n3
theorem o113_3 (c : Cx) (m2 n2 : Nat) : d113_3 c m2 n2 = j113_3 c (d113_2 c m2 n2) := by
  unfold j113_3
  refine recN_ok (by kernel_rfl) fun m => funext fun n3 => ?_
  funext t2 t3 t5 t10 t11 t12 t19 t20 t21 H
  refine Eq.trans (jnK_eq 1649271118892 _ _ H _) ?_
  kernel_rfl
def b113_2 (c : Cx) (j3 : Nat → Nat → F9) (n2 : Nat) (t2 t3 t5 t10 t11 t12 : V) (H : List Blk) : X := p (aBin .lss t12 t11) fun x1 => condK x1 ((fun (t2 t3 t5 t10 t11 t12 : V) (H : L) (c : Cx) (j3 : Nat → Nat → F9) => newK 1 H fun q H => (fun (t2 t3 t5 t10 t11 t12 : V) (q : Nat) (H : L) (c : Cx) (j3 : Nat → Nat → F9) => p (aIx 2 t10 t12) fun x2 => (aLoad true 2 x2).go H fun x3 H => (aAlloc (q + 0) [(ci 0), (ci 0)]).go H fun x4 H => (aStore 2 x4 x3).go H fun _ H => (aLoad true 7 t2).go H fun x5 H => (fun (t2 t3 t5 t10 t11 t12 x4 x5 : V) (H : L) (c : Cx) (j3 : Nat → Nat → F9) => (aLoad true 2 x4).go H fun x6 H => p (aCall c.pc 196 [x5, x6]) fun x7 => p (aFldv 7 1 false x7) fun x8 => (aLen 1 x8).go H fun x9 H => j3 c.n H.length t2 t3 t5 t10 t11 t12 x8 x9 (ci 0) H) t2 t3 t5 t10 t11 t12 x4 x5 H c j3) t2 t3 t5 t10 t11 t12 q H c j3) t2 t3 t5 t10 t11 t12 H c j3) (icK c 197 [t5] H fun x10 H => icK c 198 [t5] H fun x11 H => p (aMkF 200 [t2, t3]) fun x12 => icK c 199 [x11, x12] H fun x13 H => some (x13, H))
def j113_2 (c : Cx) : Nat → Nat → F6 := recN (fun _ _ _ _ _ _ _ _ => none) fun ih n2 => b113_2 c (j113_3 c (ih n2)) n2
theorem o113_2 (c : Cx) : d113_2 c = j113_2 c := by
  unfold j113_2
  refine recN_ok (by kernel_rfl) fun m => funext fun n2 => ?_
  simp only [← o113_3]
  funext t2 t3 t5 t10 t11 t12 H
  refine Eq.trans (jnK_eq 1099511634988 _ _ H _) ?_
  kernel_rfl
def b113_1 (c : Cx) (j2 : Nat → Nat → F6) (t0 t1 : V) (H : List Blk) : X := newK 2 H fun q H => (aBox (q + 0) t0).go H fun x1 H => (aBox (q + 1) t1).go H fun x2 H => (aLoad false 1 x2).go H fun x3 H => (aLen 1 x3).go H fun x4 H => j2 c.n H.length x1 x2 .nilS x3 x4 (ci 0) H
def j113_1 (c : Cx) : F2 := b113_1 c (j113_2 c)
theorem o113_1 (c : Cx) : d113_1 c = j113_1 c := by
  unfold j113_1; rw [← o113_2]
  funext t0 t1 H
  refine Eq.trans (stepK_jn c.pc c.ic c.n _ H _ 549755813891 c113_1) ?_
  kernel_rfl
def b113_0 (c : Cx) (j1 : F2) (t0 t1 : V) (H : List Blk) : X := j1 t0 t1 H
def s113 (c : Cx) (args : List V) (H : List Blk) : X := argsK 2 args (b113_0 c (j113_1 c) (getT args 0) (getT args 1) H)
theorem e113 (pc ic n args H) : runK pc ic n c113 args H = s113 ⟨pc, ic, n⟩ args H := by
  unfold s113; rw [← o113_1]
  kernel_rfl
def L113 : Leaf := ⟨c113, fun pc ic n => s113 ⟨pc, ic, n⟩, e113⟩
theorem kk113 : chkFn Go.Proofs.Tryz.prog ET 113 c113 = true := by kernel_rfl

def c119_3 : C := (.seq (.reg 0 none [o 84 (.load true 4) [.t 13] 0, m 85 (.t 15) 1, ⟨none, .store 4, [.t 6, .t 84], none, 0, 2⟩, m 7 (.t 85) 3]) .ret)
def c119_2 : C := (.seq (.seq (.reg 0 none [o 30 (.fld 3) [.t 4] 0, o 31 (.load false 1) [.t 30] 1, o 32 (.bin .lss) [.t 31, .c (ci 0)] 2, m 33 (.t 32) 3, ⟨some 34, .fld 3, [.t 4], some (33, false), 0, 4⟩, ⟨some 35, .load false 1, [.t 34], some (33, false), 0, 5⟩, ⟨some 36, .bin .gtr, [.t 35, .c (ci 511)], some (33, false), 0, 6⟩, o 37 .pick [.t 33, .c ct, .t 36] 7, m 38 (.t 37) 8, ⟨some 39, .mov, [.t 8], some (38, false), 0, 9⟩, ⟨some 40, .bin .eql, [.t 39, .c (ci 3)], some (38, false), 0, 10⟩, ⟨some 41, .mov, [.t 40], some (38, false), 0, 11⟩, ⟨some 42, .fld 2, [.t 4], some (41, true), 0, 12⟩, ⟨some 43, .load false 1, [.t 42], some (41, true), 0, 13⟩, ⟨some 44, .bin .eql, [.t 43, .c (.d (.str []))], some (41, true), 0, 14⟩, ⟨some 45, .mov, [.t 44], some (41, true), 0, 15⟩, ⟨some 46, .fld 2, [.t 4], some (45, false), 0, 16⟩, ⟨some 47, .load false 1, [.t 46], some (45, false), 0, 17⟩, ⟨some 48, .len 0, [.t 47], some (45, false), 0, 18⟩, ⟨some 49, .bin .gtr, [.t 48, .c (ci 120)], some (45, false), 0, 19⟩, ⟨some 50, .pick, [.t 45, .c ct, .t 49], some (41, true), 0, 20⟩, ⟨some 51, .mov, [.t 50], some (41, true), 0, 21⟩, ⟨some 52, .fld 2, [.t 4], some (51, false), 0, 22⟩, ⟨some 53, .load false 1, [.t 52], some (51, false), 0, 23⟩, ⟨some 54, .call 203, [.t 53], some (51, false), 0, 24⟩, ⟨some 55, .pick, [.t 51, .c ct, .t 54], some (41, true), 0, 25⟩, ⟨some 56, .pick, [.t 41, .t 55, .c cf], some (38, false), 0, 26⟩, o 57 .pick [.t 38, .c ct, .t 56] 27]) (.cond (.t 57) (.seq (.reg 0 none [o 58 (.load true 4) [.t 3] 0, ⟨none, .store 4, [.t 6, .t 58], none, 0, 1⟩, m 7 (.c (ci 1)) 2]) .ret) .skip)) (.seq (.seq (.reg 0 none [m 59 (.t 2) 0, o 60 (.len 1) [.t 59] 1, o 61 (.bin .eql) [.t 60, .c (ci 0)] 2]) (.cond (.t 61) (.seq (.reg 0 none [o 62 (.load true 4) [.t 3] 0, ⟨none, .store 4, [.t 6, .t 62], none, 0, 1⟩, m 7 (.c (ci 3)) 2]) .ret) .skip)) (.seq (.reg 1 none [o 64 (.load true 4) [.t 3] 0, m 65 (.t 2) 1, o 66 (.call 204) [.t 64, .t 65] 2, m 63 (.t 66) 3, o 67 (.ext 0) [.t 63] 4, o 68 (.ext 1) [.t 63] 5, o 69 (.ext 2) [.t 63] 6, o 10 (.alloc 0 z1) [] 7, ⟨none, .store 8, [.t 10, .t 67], none, 0, 8⟩, m 11 (.t 68) 9, m 12 (.t 69) 10]) (.seq (.seq (.reg 0 none [m 70 (.t 12) 0, o 71 (.bin .neq) [.t 70, .c (ci 0)] 1]) (.cond (.t 71) (.seq (.reg 0 none [o 72 (.load true 4) [.t 3] 0, m 73 (.t 12) 1, ⟨none, .store 4, [.t 6, .t 72], none, 0, 2⟩, m 7 (.t 73) 3]) .ret) .skip)) (.seq (.reg 1 none [o 75 (.load true 4) [.t 3] 0, o 76 (.fld 0) [.t 10] 1, o 77 (.load false 1) [.t 76] 2, m 78 (.t 11) 3, o 79 (.load true 8) [.t 9] 4, o 80 (.call 150) [.t 75, .t 77, .t 78, .t 79] 5, m 74 (.t 80) 6, o 81 (.ext 0) [.t 74] 7, o 82 (.ext 1) [.t 74] 8, o 83 (.ext 2) [.t 74] 9, o 13 (.alloc 0 z0) [] 10, ⟨none, .store 4, [.t 13, .t 81], none, 0, 11⟩, m 14 (.t 82) 12, m 15 (.t 83) 13]) (.jn 232113757366008801543626816 c119_3))))))
def c119_1 : C := (.seq (.reg 3 none [o 3 (.box 0) [.t 0] 0, o 4 (.box 1) [.t 1] 1, o 6 (.alloc 2 z0) [] 2, m 7 (.c (ci 0)) 3]) (.seq (.reg 1 none [o 16 (.mkMap 0) [] 0, ⟨none, .mapPut, [.t 16, .c (ci 1), .c (ci 1)], none, 0, 1⟩, ⟨none, .mapPut, [.t 16, .c (ci 2), .c (ci 2)], none, 0, 2⟩, ⟨none, .mapPut, [.t 16, .c (ci 13), .c (ci 3)], none, 0, 3⟩, m 17 (.t 16) 4, o 18 (.fld 0) [.t 4] 5, o 19 (.load false 1) [.t 18] 6, o 20 (.mapGet (ci 0) false) [.t 17, .t 19] 7, m 8 (.t 20) 8]) (.seq (.reg 1 none [m 21 (.t 8) 0, o 22 (.fld 3) [.t 4] 1, o 23 (.load false 1) [.t 22] 2, o 24 (.build z1 [(1, 1), (2, 1)]) [.t 21, .t 23] 3, o 9 (.alloc 0 z1) [] 4, ⟨none, .store 8, [.t 9, .t 24], none, 0, 5⟩]) (.seq (.seq (.reg 0 none [m 25 (.t 8) 0, o 26 (.bin .eql) [.t 25, .c (ci 3)] 1]) (.cond (.t 26) (.reg 0 none [o 27 (.fld 2) [.t 4] 0, o 28 (.load false 1) [.t 27] 1, o 29 (.fld 6) [.t 9] 2, ⟨none, .store 1, [.t 29, .t 28], none, 0, 3⟩]) .skip)) (.jn 154742504910672534362391388 c119_2)))))
def c119 : Fn := { fid := 119, np := 3, ntmps := 86, body := (.jn 77371252455336267181195271 c119_1), res := [.cell 6 true 4, .tmp 7] }
def d119_1 (c : Cx) (t0 t1 t2 : V) (H : List Blk) : X := stepK c.pc c.ic c.n (.jn 77371252455336267181195271 c119_1) (cn 0 86 [(0, t0), (1, t1), (2, t2)]) H (kTop c119.res)
def d119_2 (c : Cx) (t2 t3 t4 t6 t8 t9 : V) (H : List Blk) : X := stepK c.pc c.ic c.n (.jn 154742504910672534362391388 c119_2) (cn 0 86 [(2, t2), (3, t3), (4, t4), (6, t6), (8, t8), (9, t9)]) H (kTop c119.res)
def d119_3 (c : Cx) (t6 t13 t15 : V) (H : List Blk) : X := stepK c.pc c.ic c.n (.jn 232113757366008801543626816 c119_3) (cn 0 86 [(6, t6), (13, t13), (15, t15)]) H (kTop c119.res)
def b119_3 (c : Cx) (t6 t13 t15 : V) (H : List Blk) : X := (aLoad true 4 t13).go H fun x1 H => (aStore 4 t6 x1).go H fun _ H => bnd (loadV true 4 t6 H) fun x2 => some (.tup [x2, t15], H)
def j119_3 (c : Cx) : F3 := b119_3 c
theorem o119_3 (c : Cx) : d119_3 c = j119_3 c := by
  unfold j119_3
  funext t6 t13 t15 H
  refine Eq.trans (stepK_jn c.pc c.ic c.n _ H _ 232113757366008801543626816 c119_3) ?_
  kernel_rfl
def b119_2 (c : Cx) (j3 : F3) (t2 t3 t4 t6 t8 t9 : V) (H : List Blk) : X := p (aFld 3 t4) fun x1 => (aLoad false 1 x1).go H fun x2 H => (fun (t2 t3 t4 t6 t8 t9 x2 : V) (H : L) (c : Cx) (j3 : F3) => p (aBin .lss x2 (ci 0)) fun x3 => guardK x3 false (fun k => (aFld 3 t4).go H k) H fun x4 H => guardK x3 false (fun k => (aLoad false 1 x4).go H k) H fun x5 H => guardK x3 false (fun k => (aBin .gtr x5 (ci 511)).go H k) H fun x6 H => (fun (t2 t3 t4 t6 t8 t9 x3 x6 : V) (H : L) (c : Cx) (j3 : F3) => p (aPick x3 ct x6) fun x7 => guardK x7 false (fun k => (aMov t8).go H k) H fun x8 H => guardK x7 false (fun k => (aBin .eql x8 (ci 3)).go H k) H fun x9 H => guardK x7 false (fun k => (aMov x9).go H k) H fun x10 H => (fun (t2 t3 t4 t6 t9 x7 x10 : V) (H : L) (c : Cx) (j3 : F3) => guardK x10 true (fun k => (aFld 2 t4).go H k) H fun x11 H => guardK x10 true (fun k => (aLoad false 1 x11).go H k) H fun x12 H => guardK x10 true (fun k => (aBin .eql x12 (.d (.str []))).go H k) H fun x13 H => guardK x10 true (fun k => (aMov x13).go H k) H fun x14 H => (fun (t2 t3 t4 t6 t9 x7 x10 x14 : V) (H : L) (c : Cx) (j3 : F3) => guardK x14 false (fun k => (aFld 2 t4).go H k) H fun x15 H => guardK x14 false (fun k => (aLoad false 1 x15).go H k) H fun x16 H => guardK x14 false (fun k => (aLen 0 x16).go H k) H fun x17 H => guardK x14 false (fun k => (aBin .gtr x17 (ci 120)).go H k) H fun x18 H => (fun (t2 t3 t4 t6 t9 x7 x10 x14 x18 : V) (H : L) (c : Cx) (j3 : F3) => guardK x10 true (fun k => (aPick x14 ct x18).go H k) H fun x19 H => guardK x10 true (fun k => (aMov x19).go H k) H fun x20 H => guardK x20 false (fun k => (aFld 2 t4).go H k) H fun x21 H => guardK x20 false (fun k => (aLoad false 1 x21).go H k) H fun x22 H => (fun (t2 t3 t6 t9 x7 x10 x20 x22 : V) (H : L) (c : Cx) (j3 : F3) => guardK x20 false (fun k => (aCall c.pc 203 [x22]).go H k) H fun x23 H => guardK x10 true (fun k => (aPick x20 ct x23).go H k) H fun x24 H => guardK x7 false (fun k => (aPick x10 x24 cf).go H k) H fun x25 H => p (aPick x7 ct x25) fun x26 => condK x26 ((aLoad true 4 t3).go H fun x27 H => (aStore 4 t6 x27).go H fun _ H => bnd (loadV true 4 t6 H) fun x28 => some (.tup [x28, (ci 1)], H)) ((fun (t2 t3 t6 t9 : V) (H : L) (c : Cx) (j3 : F3) => (aLen 1 t2).go H fun x29 H => p (aBin .eql x29 (ci 0)) fun x30 => condK x30 ((aLoad true 4 t3).go H fun x31 H => (aStore 4 t6 x31).go H fun _ H => bnd (loadV true 4 t6 H) fun x32 => some (.tup [x32, (ci 3)], H)) ((fun (t2 t3 t6 t9 : V) (H : L) (c : Cx) (j3 : F3) => newK 1 H fun q H => (aLoad true 4 t3).go H fun x33 H => p (aCall c.pc 204 [x33, t2]) fun x34 => p (aExt 0 x34) fun x35 => (fun (t3 t6 t9 x34 x35 : V) (q : Nat) (H : L) (c : Cx) (j3 : F3) => p (aExt 1 x34) fun x36 => p (aExt 2 x34) fun x37 => (aAlloc (q + 0) z1).go H fun x38 H => (aStore 8 x38 x35).go H fun _ H => p (aBin .neq x37 (ci 0)) fun x39 => condK x39 ((aLoad true 4 t3).go H fun x40 H => (aStore 4 t6 x40).go H fun _ H => bnd (loadV true 4 t6 H) fun x41 => some (.tup [x41, x37], H)) ((fun (t3 t6 t9 x36 x38 : V) (H : L) (c : Cx) (j3 : F3) => newK 1 H fun q H => (aLoad true 4 t3).go H fun x42 H => p (aFld 0 x38) fun x43 => (fun (t6 t9 x36 x42 x43 : V) (q : Nat) (H : L) (c : Cx) (j3 : F3) => (aLoad false 1 x43).go H fun x44 H => (aLoad true 8 t9).go H fun x45 H => p (aCall c.pc 150 [x42, x44, x36, x45]) fun x46 => p (aExt 0 x46) fun x47 => p (aExt 1 x46) fun x48 => p (aExt 2 x46) fun x49 => (aAlloc (q + 0) z0).go H fun x50 H => (aStore 4 x50 x47).go H fun _ H => j3 t6 x50 x49 H) t6 t9 x36 x42 x43 q H c j3) t3 t6 t9 x36 x38 H c j3)) t3 t6 t9 x34 x35 q H c j3) t2 t3 t6 t9 H c j3)) t2 t3 t6 t9 H c j3)) t2 t3 t6 t9 x7 x10 x20 x22 H c j3) t2 t3 t4 t6 t9 x7 x10 x14 x18 H c j3) t2 t3 t4 t6 t9 x7 x10 x14 H c j3) t2 t3 t4 t6 t9 x7 x10 H c j3) t2 t3 t4 t6 t8 t9 x3 x6 H c j3) t2 t3 t4 t6 t8 t9 x2 H c j3
def j119_2 (c : Cx) : F6 := b119_2 c (j119_3 c)
theorem o119_2 (c : Cx) : d119_2 c = j119_2 c := by
  unfold j119_2; rw [← o119_3]
  funext t2 t3 t4 t6 t8 t9 H
  refine Eq.trans (stepK_jn c.pc c.ic c.n _ H _ 154742504910672534362391388 c119_2) ?_
  kernel_rfl
def b119_1 (c : Cx) (j2 : F6) (t0 t1 t2 : V) (H : List Blk) : X := newK 3 H fun q H => (aBox (q + 0) t0).go H fun x1 H => (aBox (q + 1) t1).go H fun x2 H => (aAlloc (q + 2) z0).go H fun x3 H => newK 1 H fun q H => (aMkMap (q + 0)).go H fun x4 H => (aMapPut x4 (ci 1) (ci 1)).go H fun _ H => (aMapPut x4 (ci 2) (ci 2)).go H fun _ H => (fun (t2 x1 x2 x3 x4 : V) (H : L) (j2 : F6) => (aMapPut x4 (ci 13) (ci 3)).go H fun _ H => p (aFld 0 x2) fun x5 => (aLoad false 1 x5).go H fun x6 H => (aMapGet (ci 0) false x4 x6).go H fun x7 H => newK 1 H fun q H => p (aFld 3 x2) fun x8 => (fun (t2 x1 x2 x3 x7 x8 : V) (q : Nat) (H : L) (j2 : F6) => (aLoad false 1 x8).go H fun x9 H => p (aBuild z1 [(1, 1), (2, 1)] [x7, x9]) fun x10 => (aAlloc (q + 0) z1).go H fun x11 H => (aStore 8 x11 x10).go H fun _ H => p (aBin .eql x7 (ci 3)) fun x12 => condK x12 (p (aFld 2 x2) fun x13 => (aLoad false 1 x13).go H fun x14 H => p (aFld 6 x11) fun x15 => (aStore 1 x15 x14).go H fun _ H => j2 t2 x1 x2 x3 x7 x11 H) (j2 t2 x1 x2 x3 x7 x11 H)) t2 x1 x2 x3 x7 x8 q H j2) t2 x1 x2 x3 x4 H j2
def j119_1 (c : Cx) : F3 := b119_1 c (j119_2 c)
theorem o119_1 (c : Cx) : d119_1 c = j119_1 c := by
  unfold j119_1; rw [← o119_2]
  funext t0 t1 t2 H
  refine Eq.trans (stepK_jn c.pc c.ic c.n _ H _ 77371252455336267181195271 c119_1) ?_
  kernel_rfl
def b119_0 (c : Cx) (j1 : F3) (t0 t1 t2 : V) (H : List Blk) : X := j1 t0 t1 t2 H
def s119 (c : Cx) (args : List V) (H : List Blk) : X := argsK 3 args (b119_0 c (j119_1 c) (getT args 0) (getT args 1) (getT args 2) H)
theorem e119 (pc ic n args H) : runK pc ic n c119 args H = s119 ⟨pc, ic, n⟩ args H := by
  unfold s119; rw [← o119_1]
  kernel_rfl
def L119 : Leaf := ⟨c119, fun pc ic n => s119 ⟨pc, ic, n⟩, e119⟩
theorem kk119 : chkFn Go.Proofs.Tryz.prog ET 119 c119 = true := by kernel_rfl

def c121_1 : C := (.seq (.reg 2 none [o 3 (.box 0) [.t 0] 0, o 6 (.alloc 1 z0) [] 1, m 7 (.c (ci 0)) 2]) (.seq (.reg 1 none [o 14 (.load true 4) [.t 3] 0, m 15 (.t 1) 1, o 16 (.call 12) [.t 14, .t 15] 2, m 13 (.t 16) 3, o 17 (.ext 0) [.t 13] 4, o 18 (.ext 1) [.t 13] 5, o 8 (.alloc 0 z1) [] 6, ⟨none, .store 8, [.t 8, .t 17], none, 0, 7⟩, m 9 (.t 18) 8]) (.seq (.blk 0 (.seq (.reg 0 none [m 20 (.t 9) 0, o 21 (.bin .neq) [.t 20, .c (ci 0)] 1, m 19 (.t 21) 2]) (.cond (.t 19) (.seq (.reg 0 none [o 22 (.load true 4) [.t 3] 0, m 23 (.t 9) 1, ⟨none, .store 4, [.t 6, .t 22], none, 0, 2⟩, m 7 (.t 23) 3]) .ret) (.seq (.reg 0 none [o 25 (.fld 1) [.t 8] 0, o 26 (.load false 1) [.t 25] 1, o 27 (.bin .eql) [.t 26, .c (ci 2)] 2, m 24 (.t 27) 3]) (.cond (.t 24) (.seq (.reg 0 none [o 28 (.load true 4) [.t 3] 0, ⟨none, .store 4, [.t 6, .t 28], none, 0, 1⟩, m 7 (.c (ci 7)) 2]) .ret) (.seq (.reg 0 none [m 30 (.t 2) 0, o 31 (.len 1) [.t 30] 1, o 32 (.bin .eql) [.t 31, .c (ci 0)] 2, m 29 (.t 32) 3]) (.cond (.t 29) (.seq (.reg 0 none [o 33 (.load true 4) [.t 3] 0, ⟨none, .store 4, [.t 6, .t 33], none, 0, 1⟩, m 7 (.c (ci 3)) 2]) .ret) .skip))))))) (.seq (.reg 1 none [o 35 (.load true 4) [.t 3] 0, m 36 (.t 2) 1, o 37 (.call 204) [.t 35, .t 36] 2, m 34 (.t 37) 3, o 38 (.ext 0) [.t 34] 4, o 39 (.ext 1) [.t 34] 5, o 40 (.ext 2) [.t 34] 6, o 10 (.alloc 0 z1) [] 7, ⟨none, .store 8, [.t 10, .t 38], none, 0, 8⟩, m 11 (.t 39) 9, m 12 (.t 40) 10]) (.seq (.seq (.reg 0 none [m 41 (.t 12) 0, o 42 (.bin .neq) [.t 41, .c (ci 0)] 1]) (.cond (.t 42) (.seq (.reg 0 none [o 43 (.load true 4) [.t 3] 0, m 44 (.t 12) 1, ⟨none, .store 4, [.t 6, .t 43], none, 0, 2⟩, m 7 (.t 44) 3]) .ret) .skip)) (.seq (.reg 0 none [o 45 (.load true 4) [.t 3] 0, o 46 (.fld 0) [.t 10] 1, o 47 (.load false 1) [.t 46] 2, m 48 (.t 11) 3, o 49 (.fld 0) [.t 8] 4, o 50 (.load false 1) [.t 49] 5, o 51 (.call 133) [.t 45, .t 47, .t 48, .t 50] 6, o 52 (.ext 0) [.t 51] 7, o 53 (.ext 1) [.t 51] 8, ⟨none, .store 4, [.t 6, .t 52], none, 0, 9⟩, m 7 (.t 53) 10]) .ret))))))
def c121 : Fn := { fid := 121, np := 3, ntmps := 54, body := (.jn 18014398509481991 c121_1), res := [.cell 6 true 4, .tmp 7] }
def d121_1 (c : Cx) (t0 t1 t2 : V) (H : List Blk) : X := stepK c.pc c.ic c.n (.jn 18014398509481991 c121_1) (cn 0 54 [(0, t0), (1, t1), (2, t2)]) H (kTop c121.res)
def b121_1 (c : Cx) (t0 t1 t2 : V) (H : List Blk) : X := newK 2 H fun q H => (aBox (q + 0) t0).go H fun x1 H => (aAlloc (q + 1) z0).go H fun x2 H => newK 1 H fun q H => (aLoad true 4 x1).go H fun x3 H => p (aCall c.pc 12 [x3, t1]) fun x4 => (fun (t2 x1 x2 x4 : V) (q : Nat) (H : L) (c : Cx) => p (aExt 0 x4) fun x5 => p (aExt 1 x4) fun x6 => (aAlloc (q + 0) z1).go H fun x7 H => (aStore 8 x7 x5).go H fun _ H => p (aBin .neq x6 (ci 0)) fun x8 => condK x8 ((aLoad true 4 x1).go H fun x9 H => (aStore 4 x2 x9).go H fun _ H => bnd (loadV true 4 x2 H) fun x10 => some (.tup [x10, x6], H)) ((fun (t2 x1 x2 x7 : V) (H : L) (c : Cx) => p (aFld 1 x7) fun x11 => (aLoad false 1 x11).go H fun x12 H => p (aBin .eql x12 (ci 2)) fun x13 => condK x13 ((aLoad true 4 x1).go H fun x14 H => (aStore 4 x2 x14).go H fun _ H => bnd (loadV true 4 x2 H) fun x15 => some (.tup [x15, (ci 7)], H)) ((fun (t2 x1 x2 x7 : V) (H : L) (c : Cx) => (aLen 1 t2).go H fun x16 H => p (aBin .eql x16 (ci 0)) fun x17 => condK x17 ((aLoad true 4 x1).go H fun x18 H => (aStore 4 x2 x18).go H fun _ H => bnd (loadV true 4 x2 H) fun x19 => some (.tup [x19, (ci 3)], H)) ((fun (t2 x1 x2 x7 : V) (H : L) (c : Cx) => newK 1 H fun q H => (aLoad true 4 x1).go H fun x20 H => p (aCall c.pc 204 [x20, t2]) fun x21 => p (aExt 0 x21) fun x22 => (fun (x1 x2 x7 x21 x22 : V) (q : Nat) (H : L) (c : Cx) => p (aExt 1 x21) fun x23 => p (aExt 2 x21) fun x24 => (aAlloc (q + 0) z1).go H fun x25 H => (aStore 8 x25 x22).go H fun _ H => p (aBin .neq x24 (ci 0)) fun x26 => condK x26 ((aLoad true 4 x1).go H fun x27 H => (aStore 4 x2 x27).go H fun _ H => bnd (loadV true 4 x2 H) fun x28 => some (.tup [x28, x24], H)) ((fun (x1 x2 x7 x23 x25 : V) (H : L) (c : Cx) => (aLoad true 4 x1).go H fun x29 H => (fun (x2 x7 x23 x25 x29 : V) (H : L) (c : Cx) => p (aFld 0 x25) fun x30 => (aLoad false 1 x30).go H fun x31 H => p (aFld 0 x7) fun x32 => (aLoad false 1 x32).go H fun x33 H => (fun (x2 x23 x29 x31 x33 : V) (H : L) (c : Cx) => p (aCall c.pc 133 [x29, x31, x23, x33]) fun x34 => p (aExt 0 x34) fun x35 => p (aExt 1 x34) fun x36 => (aStore 4 x2 x35).go H fun _ H => bnd (loadV true 4 x2 H) fun x37 => some (.tup [x37, x36], H)) x2 x23 x29 x31 x33 H c) x2 x7 x23 x25 x29 H c) x1 x2 x7 x23 x25 H c)) x1 x2 x7 x21 x22 q H c) t2 x1 x2 x7 H c)) t2 x1 x2 x7 H c)) t2 x1 x2 x7 H c)) t2 x1 x2 x4 q H c
def j121_1 (c : Cx) : F3 := b121_1 c
theorem o121_1 (c : Cx) : d121_1 c = j121_1 c := by
  unfold j121_1
  funext t0 t1 t2 H
  refine Eq.trans (stepK_jn c.pc c.ic c.n _ H _ 18014398509481991 c121_1) ?_
  kernel_rfl
def b121_0 (c : Cx) (j1 : F3) (t0 t1 t2 : V) (H : List Blk) : X := j1 t0 t1 t2 H
def s121 (c : Cx) (args : List V) (H : List Blk) : X := argsK 3 args (b121_0 c (j121_1 c) (getT args 0) (getT args 1) (getT args 2) H)
theorem e121 (pc ic n args H) : runK pc ic n c121 args H = s121 ⟨pc, ic, n⟩ args H := by
  unfold s121; rw [← o121_1]
  kernel_rfl
def L121 : Leaf := ⟨c121, fun pc ic n => s121 ⟨pc, ic, n⟩, e121⟩
theorem kk121 : chkFn Go.Proofs.Tryz.prog ET 121 c121 = true := by kernel_rfl

def c123_2 : C := (.seq (.seq (.reg 0 none [m 100 (.t 13) 0, o 101 (.fld 7) [.t 9] 1, o 102 (.load false 1) [.t 101] 2, o 103 (.len 1) [.t 102] 3, o 104 (.bin .lss) [.t 100, .t 103] 4]) (.cond (.t 104) .skip (.exit 1))) (.seq (.blk 2 (.reg 1 (some ⟨true, [], 121⟩) [o 107 (.fld 1) [.t 12] 0, ⟨some 108, .load false 1, [.t 107], none, 1, 1⟩, o 109 (.fld 7) [.t 9] 2, ⟨some 110, .load false 1, [.t 109], none, 4, 3⟩, m 111 (.t 13) 4, ⟨some 112, .ix 2, [.t 110, .t 111], none, 28, 5⟩, ⟨some 113, .fld 0, [.t 112], none, 60, 6⟩, ⟨some 114, .load false 1, [.t 113], none, 124, 7⟩, ⟨some 115, .bsl 1 [(.str [])] 1 [0], [.t 114], none, 252, 8⟩, ⟨some 116, .app 0 1 16, [.t 108, .t 115], none, 511, 9⟩, ⟨some 117, .fld 1, [.t 12], none, 1023, 10⟩, ⟨none, .store 1, [.t 117, .t 116], none, 2047, 11⟩])) (.reg 0 none [m 105 (.t 13) 0, o 106 (.bin .add) [.t 105, .c (ci 1)] 1, m 13 (.t 106) 2])))
def l123_0 : List O := [o 118 (.load true 4) [.t 11] 0, o 119 (.load true 7) [.t 12] 1, m 120 (.t 10) 2, ⟨none, .store 4, [.t 6, .t 118], none, 1, 3⟩, ⟨none, .store 7, [.t 7, .t 119], none, 11, 4⟩, ⟨some 8, .mov, [.t 120], none, 31, 5⟩]
def c123_3 : C := (.seq (.reg 0 (some ⟨false, [0, 3, 1, 4, 2, 5], 121⟩) l123_0) .ret)
def c123_1 : C := (.seq (.reg 4 none [o 3 (.box 0) [.t 0] 0, o 4 (.box 1) [.t 1] 1, o 6 (.alloc 2 z0) [] 2, o 7 (.alloc 3 z9) [] 3, m 8 (.c (ci 0)) 4]) (.seq (.reg 1 none [o 15 (.load true 4) [.t 3] 0, m 16 (.t 2) 1, o 17 (.call 12) [.t 15, .t 16] 2, m 14 (.t 17) 3, o 18 (.ext 0) [.t 14] 4, o 19 (.ext 1) [.t 14] 5, o 9 (.alloc 0 z1) [] 6, ⟨none, .store 8, [.t 9, .t 18], none, 0, 7⟩, m 10 (.t 19) 8]) (.seq (.seq (.reg 0 none [m 20 (.t 10) 0, o 21 (.bin .neq) [.t 20, .c (ci 0)] 1]) (.cond (.t 21) (.seq (.reg 0 none [o 22 (.load true 4) [.t 3] 0, o 23 (.build z9 []) [] 1, m 24 (.t 10) 2, ⟨none, .store 4, [.t 6, .t 22], none, 0, 3⟩, ⟨none, .store 7, [.t 7, .t 23], none, 0, 4⟩, m 8 (.t 24) 5]) .ret) .skip)) (.seq (.reg 1 none [o 25 (.load true 4) [.t 3] 0, o 11 (.alloc 0 z0) [] 1, ⟨none, .store 4, [.t 11, .t 25], none, 0, 2⟩]) (.seq (.reg 1 none [o 12 (.alloc 0 z9) [] 0]) (.seq (.seq (.reg 0 none [o 26 (.fld 0) [.t 4] 0, o 27 (.load false 1) [.t 26] 1]) (.blk 0 (.seq (.reg 0 none [o 38 (.bin .eql) [.t 27, .c (ci 7)] 0, m 37 (.t 38) 1]) (.cond (.t 37) (.reg 0 none [o 40 (.load true 4) [.t 3] 0, o 41 (.fld 0) [.t 9] 1, o 42 (.load false 1) [.t 41] 2, o 43 (.fld 4) [.t 4] 3, o 44 (.load false 1) [.t 43] 4, o 45 (.fld 6) [.t 4] 5, o 46 (.load false 1) [.t 45] 6, o 47 (.call 147) [.t 40, .t 42, .t 44, .t 46] 7, m 39 (.t 47) 8, o 48 (.ext 0) [.t 39] 9, o 49 (.ext 1) [.t 39] 10, ⟨none, .store 4, [.t 11, .t 48], none, 0, 11⟩, m 10 (.t 49) 12]) (.seq (.reg 0 none [o 51 (.bin .eql) [.t 27, .c (ci 9)] 0, m 50 (.t 51) 1]) (.cond (.t 50) (.reg 0 none [o 53 (.load true 4) [.t 3] 0, o 54 (.fld 0) [.t 9] 1, o 55 (.load false 1) [.t 54] 2, o 56 (.fld 5) [.t 4] 3, o 57 (.load false 1) [.t 56] 4, o 58 (.call 148) [.t 53, .t 55, .t 57] 5, m 52 (.t 58) 6, o 59 (.ext 0) [.t 52] 7, o 60 (.ext 1) [.t 52] 8, ⟨none, .store 4, [.t 11, .t 59], none, 0, 9⟩, m 10 (.t 60) 10]) (.seq (.reg 0 none [o 62 (.bin .eql) [.t 27, .c (ci 10)] 0, m 61 (.t 62) 1]) (.cond (.t 61) (.reg 0 none [o 64 (.load true 4) [.t 3] 0, o 65 (.fld 0) [.t 9] 1, o 66 (.load false 1) [.t 65] 2, o 67 (.fld 3) [.t 4] 3, o 68 (.load false 1) [.t 67] 4, o 69 (.call 149) [.t 64, .t 66, .t 68] 5, m 63 (.t 69) 6, o 70 (.ext 0) [.t 63] 7, o 71 (.ext 1) [.t 63] 8, ⟨none, .store 4, [.t 11, .t 70], none, 0, 9⟩, m 10 (.t 71) 10]) (.seq (.reg 0 none [o 73 (.bin .eql) [.t 27, .c (ci 8)] 0, m 72 (.t 73) 1]) (.cond (.t 72) (.reg 0 none [o 75 (.load true 4) [.t 3] 0, o 76 (.fld 0) [.t 9] 1, o 77 (.load false 1) [.t 76] 2, o 78 (.fld 4) [.t 4] 3, o 79 (.load false 1) [.t 78] 4, o 80 (.fld 5) [.t 4] 5, o 81 (.load false 1) [.t 80] 6, o 82 (.call 155) [.t 75, .t 77, .t 79, .t 81] 7, m 74 (.t 82) 8, o 83 (.ext 0) [.t 74] 9, o 84 (.ext 1) [.t 74] 10, o 85 (.fld 0) [.t 12] 11, ⟨none, .store 1, [.t 85, .t 83], none, 0, 12⟩, m 10 (.t 84) 13]) (.seq (.reg 0 none [o 87 (.bin .eql) [.t 27, .c (ci 11)] 0, m 86 (.t 87) 1]) (.cond (.t 86) (.reg 0 none [o 88 (.load true 4) [.t 3] 0, o 89 (.fld 0) [.t 9] 1, o 90 (.load false 1) [.t 89] 2, o 91 (.call 210) [.t 88, .t 90] 3, o 92 (.fld 2) [.t 12] 4, ⟨none, .store 5, [.t 92, .t 91], none, 0, 5⟩]) (.seq (.reg 0 none [o 94 (.bin .eql) [.t 27, .c (ci 12)] 0, m 93 (.t 94) 1]) (.cond (.t 93) (.seq (.seq (.reg 0 none [o 95 (.fld 1) [.t 9] 0, o 96 (.load false 1) [.t 95] 1, o 97 (.bin .neq) [.t 96, .c (ci 2)] 2]) (.cond (.t 97) (.seq (.reg 0 none [o 98 (.load true 4) [.t 3] 0, o 99 (.build z9 []) [] 1, ⟨none, .store 4, [.t 6, .t 98], none, 0, 2⟩, ⟨none, .store 7, [.t 7, .t 99], none, 0, 3⟩, m 8 (.c (ci 4)) 4]) .ret) .skip)) (.seq (.reg 0 none [m 13 (.c (ci 0)) 0]) (.blk 1 (.loop 5316911983139663491615228241121394368 false c123_2)))) (.seq (.seq (.reg 0 none [o 28 (.fld 1) [.t 9] 0, o 29 (.load false 1) [.t 28] 1, o 30 (.bin .neq) [.t 29, .c (ci 3)] 2]) (.cond (.t 30) (.seq (.reg 0 none [o 31 (.load true 4) [.t 3] 0, o 32 (.build z9 []) [] 1, ⟨none, .store 4, [.t 6, .t 31], none, 0, 2⟩, ⟨none, .store 7, [.t 7, .t 32], none, 0, 3⟩, m 8 (.c (ci 1)) 4]) .ret) .skip)) (.reg 0 none [o 33 (.fld 6) [.t 9] 0, o 34 (.load false 1) [.t 33] 1, o 35 .toBytes [.t 34] 2, o 36 (.fld 0) [.t 12] 3, ⟨none, .store 1, [.t 36, .t 35], none, 0, 4⟩])))))))))))))))) (.jn 7975367974709495237422842361682074816 c123_3)))))))
def c123 : Fn := { fid := 123, np := 3, ntmps := 121, body := (.jn 2658455991569831745807614120560689159 c123_1), res := [.cell 6 true 4, .cell 7 true 7, .tmp 8] }
def d123_1 (c : Cx) (t0 t1 t2 : V) (H : List Blk) : X := stepK c.pc c.ic c.n (.jn 2658455991569831745807614120560689159 c123_1) (cn 0 121 [(0, t0), (1, t1), (2, t2)]) H (kTop c123.res)
def d123_3 (c : Cx) (t6 t7 t10 t11 t12 : V) (H : List Blk) : X := stepK c.pc c.ic c.n (.jn 7975367974709495237422842361682074816 c123_3) (cn 0 121 [(6, t6), (7, t7), (10, t10), (11, t11), (12, t12)]) H (kTop c123.res)
def b123_3 (c : Cx) (t6 t7 t10 t11 t12 : V) (H : List Blk) : X := drawnK c.pc c.ic l123_0 0 (cn 0 121 [(6, t6), (7, t7), (10, t10), (11, t11), (12, t12)]) H fun ts0 H => bnd (loadV true 4 (getT ts0 6) H) fun x2 => bnd (loadV true 7 (getT ts0 7) H) fun x3 => some (.tup [x2, x3, (getT ts0 8)], H)
def j123_3 (c : Cx) : F5 := b123_3 c
theorem o123_3 (c : Cx) : d123_3 c = j123_3 c := by
  unfold j123_3
  funext t6 t7 t10 t11 t12 H
  refine Eq.trans (stepK_jn c.pc c.ic c.n _ H _ 7975367974709495237422842361682074816 c123_3) ?_
  kernel_rfl
def k123_1 (c : Cx) : KT := thenK (stepK c.pc c.ic c.n (.jn 7975367974709495237422842361682074816 c123_3)) (kTop c123.res)
def k123_2 (c : Cx) : KT := blkK 0 (k123_1 c)
def k123_3 (c : Cx) : KT := blkK 1 (k123_2 c)
def d123_2 (c : Cx) (m n2 : Nat) (t6 t7 t9 t10 t11 t12 t13 : V) (H : List Blk) : X := jnK (loopsK (stepK c.pc c.ic c.n c123_2) 5316911983139663491615228241121394368 false n2 m) (cn 0 121 [(6, t6), (7, t7), (9, t9), (10, t10), (11, t11), (12, t12), (13, t13)]) H (k123_3 c) 5316911983139663491615228241121394368
def b123_2 (c : Cx) (r2 : F7) (j3 : F5) (n2 : Nat) (t6 t7 t9 t10 t11 t12 t13 : V) (H : List Blk) : X := p (aFld 7 t9) fun x1 => (aLoad false 1 x1).go H fun x2 H => (aLen 1 x2).go H fun x3 H => p (aBin .lss t13 x3) fun x4 => condK x4 ((fun (t6 t7 t9 t10 t11 t12 t13 : V) (H : L) (r2 : F7) => newK 1 H fun q H => p (aFld 1 t12) fun x5 => (aLoad false 1 x5).go H fun x6 H => p (aFld 7 t9) fun x7 => (fun (t6 t7 t9 t10 t11 t12 t13 x6 x7 : V) (q : Nat) (H : L) (r2 : F7) => (aLoad false 1 x7).go H fun x8 H => p (aIx 2 x8 t13) fun x9 => p (aFld 0 x9) fun x10 => (aLoad false 1 x10).go H fun x11 H => (fun (t6 t7 t9 t10 t11 t12 t13 x6 x11 : V) (q : Nat) (H : L) (r2 : F7) => p (aBsl 1 [(.str [])] 1 [0] [x11]) fun x12 => (aApp (q + 0) 1 16 x6 x12).go H fun x13 H => p (aFld 1 t12) fun x14 => (aStore 1 x14 x13).go H fun _ H => p (aBin .add t13 (ci 1)) fun x15 => r2 t6 t7 t9 t10 t11 t12 x15 H) t6 t7 t9 t10 t11 t12 t13 x6 x11 q H r2) t6 t7 t9 t10 t11 t12 t13 x6 x7 q H r2) t6 t7 t9 t10 t11 t12 t13 H r2) (j3 t6 t7 t10 t11 t12 H)
def j123_2 (c : Cx) : Nat → Nat → F7 := recN (fun _ _ _ _ _ _ _ _ _ => none) fun ih n2 => b123_2 c (ih n2) (j123_3 c) n2
theorem o123_2 (c : Cx) : d123_2 c = j123_2 c := by
  unfold j123_2
  refine recN_ok (by kernel_rfl) fun m => funext fun n2 => ?_
  simp only [← o123_3]
  funext t6 t7 t9 t10 t11 t12 t13 H
  refine Eq.trans (jnK_eq 5316911983139663491615228241121394368 _ _ H _) ?_
  kernel_rfl
def b123_1 (c : Cx) (j2 : Nat → Nat → F7) (j3 : F5) (t0 t1 t2 : V) (H : List Blk) : X := newK 4 H fun q H => (fun (t0 t1 t2 : V) (q : Nat) (H : L) (c : Cx) (j2 : Nat → Nat → F7) (j3 : F5) => (aBox (q + 0) t0).go H fun x1 H => (aBox (q + 1) t1).go H fun x2 H => (aAlloc (q + 2) z0).go H fun x3 H => (aAlloc (q + 3) z9).go H fun x4 H => newK 1 H fun q H => (aLoad true 4 x1).go H fun x5 H => p (aCall c.pc 12 [x5, t2]) fun x6 => (fun (x1 x2 x3 x4 x6 : V) (q : Nat) (H : L) (c : Cx) (j2 : Nat → Nat → F7) (j3 : F5) => p (aExt 0 x6) fun x7 => p (aExt 1 x6) fun x8 => (aAlloc (q + 0) z1).go H fun x9 H => (aStore 8 x9 x7).go H fun _ H => p (aBin .neq x8 (ci 0)) fun x10 => condK x10 ((fun (x1 x3 x4 x8 : V) (H : L) => (aLoad true 4 x1).go H fun x11 H => p (aBuild z9 [] []) fun x12 => (aStore 4 x3 x11).go H fun _ H => (aStore 7 x4 x12).go H fun _ H => bnd (loadV true 4 x3 H) fun x13 => bnd (loadV true 7 x4 H) fun x14 => some (.tup [x13, x14, x8], H)) x1 x3 x4 x8 H) ((fun (x1 x2 x3 x4 x8 x9 : V) (H : L) (c : Cx) (j2 : Nat → Nat → F7) (j3 : F5) => newK 1 H fun q H => (aLoad true 4 x1).go H fun x15 H => (aAlloc (q + 0) z0).go H fun x16 H => (aStore 4 x16 x15).go H fun _ H => newK 1 H fun q H => (aAlloc (q + 0) z9).go H fun x17 H => p (aFld 0 x2) fun x18 => (aLoad false 1 x18).go H fun x19 H => p (aBin .eql x19 (ci 7)) fun x20 => condK x20 ((fun (x1 x2 x3 x4 x9 x16 x17 : V) (H : L) (c : Cx) (j3 : F5) => (aLoad true 4 x1).go H fun x21 H => p (aFld 0 x9) fun x22 => (aLoad false 1 x22).go H fun x23 H => (fun (x2 x3 x4 x16 x17 x21 x23 : V) (H : L) (c : Cx) (j3 : F5) => p (aFld 4 x2) fun x24 => (aLoad false 1 x24).go H fun x25 H => p (aFld 6 x2) fun x26 => (aLoad false 1 x26).go H fun x27 H => (fun (x3 x4 x16 x17 x21 x23 x25 x27 : V) (H : L) (c : Cx) (j3 : F5) => p (aCall c.pc 147 [x21, x23, x25, x27]) fun x28 => p (aExt 0 x28) fun x29 => p (aExt 1 x28) fun x30 => (aStore 4 x16 x29).go H fun _ H => j3 x3 x4 x30 x16 x17 H) x3 x4 x16 x17 x21 x23 x25 x27 H c j3) x2 x3 x4 x16 x17 x21 x23 H c j3) x1 x2 x3 x4 x9 x16 x17 H c j3) ((fun (x1 x2 x3 x4 x8 x9 x16 x17 x19 : V) (H : L) (c : Cx) (j2 : Nat → Nat → F7) (j3 : F5) => p (aBin .eql x19 (ci 9)) fun x31 => condK x31 ((fun (x1 x2 x3 x4 x9 x16 x17 : V) (H : L) (c : Cx) (j3 : F5) => (aLoad true 4 x1).go H fun x32 H => (fun (x2 x3 x4 x9 x16 x17 x32 : V) (H : L) (c : Cx) (j3 : F5) => p (aFld 0 x9) fun x33 => (aLoad false 1 x33).go H fun x34 H => p (aFld 5 x2) fun x35 => (aLoad false 1 x35).go H fun x36 H => p (aCall c.pc 148 [x32, x34, x36]) fun x37 => p (aExt 0 x37) fun x38 => p (aExt 1 x37) fun x39 => (aStore 4 x16 x38).go H fun _ H => j3 x3 x4 x39 x16 x17 H) x2 x3 x4 x9 x16 x17 x32 H c j3) x1 x2 x3 x4 x9 x16 x17 H c j3) ((fun (x1 x2 x3 x4 x8 x9 x16 x17 x19 : V) (H : L) (c : Cx) (j2 : Nat → Nat → F7) (j3 : F5) => p (aBin .eql x19 (ci 10)) fun x40 => condK x40 ((fun (x1 x2 x3 x4 x9 x16 x17 : V) (H : L) (c : Cx) (j3 : F5) => (aLoad true 4 x1).go H fun x41 H => (fun (x2 x3 x4 x9 x16 x17 x41 : V) (H : L) (c : Cx) (j3 : F5) => p (aFld 0 x9) fun x42 => (aLoad false 1 x42).go H fun x43 H => p (aFld 3 x2) fun x44 => (aLoad false 1 x44).go H fun x45 H => p (aCall c.pc 149 [x41, x43, x45]) fun x46 => p (aExt 0 x46) fun x47 => p (aExt 1 x46) fun x48 => (aStore 4 x16 x47).go H fun _ H => j3 x3 x4 x48 x16 x17 H) x2 x3 x4 x9 x16 x17 x41 H c j3) x1 x2 x3 x4 x9 x16 x17 H c j3) ((fun (x1 x2 x3 x4 x8 x9 x16 x17 x19 : V) (H : L) (c : Cx) (j2 : Nat → Nat → F7) (j3 : F5) => p (aBin .eql x19 (ci 8)) fun x49 => condK x49 ((fun (x1 x2 x3 x4 x9 x16 x17 : V) (H : L) (c : Cx) (j3 : F5) => (aLoad true 4 x1).go H fun x50 H => p (aFld 0 x9) fun x51 => (aLoad false 1 x51).go H fun x52 H => p (aFld 4 x2) fun x53 => (fun (x2 x3 x4 x16 x17 x50 x52 x53 : V) (H : L) (c : Cx) (j3 : F5) => (aLoad false 1 x53).go H fun x54 H => p (aFld 5 x2) fun x55 => (aLoad false 1 x55).go H fun x56 H => p (aCall c.pc 155 [x50, x52, x54, x56]) fun x57 => p (aExt 0 x57) fun x58 => p (aExt 1 x57) fun x59 => p (aFld 0 x17) fun x60 => (aStore 1 x60 x58).go H fun _ H => j3 x3 x4 x59 x16 x17 H) x2 x3 x4 x16 x17 x50 x52 x53 H c j3) x1 x2 x3 x4 x9 x16 x17 H c j3) ((fun (x1 x3 x4 x8 x9 x16 x17 x19 : V) (H : L) (c : Cx) (j2 : Nat → Nat → F7) (j3 : F5) => p (aBin .eql x19 (ci 11)) fun x61 => condK x61 ((fun (x1 x3 x4 x8 x9 x16 x17 : V) (H : L) (c : Cx) (j3 : F5) => (aLoad true 4 x1).go H fun x62 H => p (aFld 0 x9) fun x63 => (fun (x3 x4 x8 x16 x17 x62 x63 : V) (H : L) (c : Cx) (j3 : F5) => (aLoad false 1 x63).go H fun x64 H => p (aCall c.pc 210 [x62, x64]) fun x65 => p (aFld 2 x17) fun x66 => (aStore 5 x66 x65).go H fun _ H => j3 x3 x4 x8 x16 x17 H) x3 x4 x8 x16 x17 x62 x63 H c j3) x1 x3 x4 x8 x9 x16 x17 H c j3) ((fun (x1 x3 x4 x8 x9 x16 x17 x19 : V) (H : L) (c : Cx) (j2 : Nat → Nat → F7) (j3 : F5) => p (aBin .eql x19 (ci 12)) fun x67 => condK x67 ((fun (x1 x3 x4 x8 x9 x16 x17 : V) (H : L) (c : Cx) (j2 : Nat → Nat → F7) => p (aFld 1 x9) fun x68 => (aLoad false 1 x68).go H fun x69 H => p (aBin .neq x69 (ci 2)) fun x70 => condK x70 ((fun (x1 x3 x4 : V) (H : L) => (aLoad true 4 x1).go H fun x71 H => p (aBuild z9 [] []) fun x72 => (aStore 4 x3 x71).go H fun _ H => (aStore 7 x4 x72).go H fun _ H => bnd (loadV true 4 x3 H) fun x73 => bnd (loadV true 7 x4 H) fun x74 => some (.tup [x73, x74, (ci 4)], H)) x1 x3 x4 H) (j2 c.n H.length x3 x4 x9 x8 x16 x17 (ci 0) H)) x1 x3 x4 x8 x9 x16 x17 H c j2) ((fun (x1 x3 x4 x8 x9 x16 x17 : V) (H : L) (j3 : F5) => p (aFld 1 x9) fun x75 => (aLoad false 1 x75).go H fun x76 H => p (aBin .neq x76 (ci 3)) fun x77 => condK x77 ((fun (x1 x3 x4 : V) (H : L) => (aLoad true 4 x1).go H fun x78 H => p (aBuild z9 [] []) fun x79 => (aStore 4 x3 x78).go H fun _ H => (aStore 7 x4 x79).go H fun _ H => bnd (loadV true 4 x3 H) fun x80 => bnd (loadV true 7 x4 H) fun x81 => some (.tup [x80, x81, (ci 1)], H)) x1 x3 x4 H) ((fun (x3 x4 x8 x9 x16 x17 : V) (H : L) (j3 : F5) => p (aFld 6 x9) fun x82 => (aLoad false 1 x82).go H fun x83 H => p (aToBytes x83) fun x84 => p (aFld 0 x17) fun x85 => (aStore 1 x85 x84).go H fun _ H => j3 x3 x4 x8 x16 x17 H) x3 x4 x8 x9 x16 x17 H j3)) x1 x3 x4 x8 x9 x16 x17 H j3)) x1 x3 x4 x8 x9 x16 x17 x19 H c j2 j3)) x1 x3 x4 x8 x9 x16 x17 x19 H c j2 j3)) x1 x2 x3 x4 x8 x9 x16 x17 x19 H c j2 j3)) x1 x2 x3 x4 x8 x9 x16 x17 x19 H c j2 j3)) x1 x2 x3 x4 x8 x9 x16 x17 x19 H c j2 j3)) x1 x2 x3 x4 x8 x9 H c j2 j3)) x1 x2 x3 x4 x6 q H c j2 j3) t0 t1 t2 q H c j2 j3
def j123_1 (c : Cx) : F3 := b123_1 c (j123_2 c) (j123_3 c)
theorem o123_1 (c : Cx) : d123_1 c = j123_1 c := by
  unfold j123_1; rw [← o123_2, ← o123_3]
  funext t0 t1 t2 H
  refine Eq.trans (stepK_jn c.pc c.ic c.n _ H _ 2658455991569831745807614120560689159 c123_1) ?_
  kernel_rfl
def b123_0 (c : Cx) (j1 : F3) (t0 t1 t2 : V) (H : List Blk) : X := j1 t0 t1 t2 H
def s123 (c : Cx) (args : List V) (H : List Blk) : X := argsK 3 args (b123_0 c (j123_1 c) (getT args 0) (getT args 1) (getT args 2) H)
theorem e123 (pc ic n args H) : runK pc ic n c123 args H = s123 ⟨pc, ic, n⟩ args H := by
  unfold s123; rw [← o123_1]
  kernel_rfl
def L123 : Leaf := ⟨c123, fun pc ic n => s123 ⟨pc, ic, n⟩, e123⟩
theorem kk123 : chkFn Go.Proofs.Tryz.prog ET 123 c123 = true := by kernel_rfl

def c133_1 : C := (.seq (.reg 2 none [o 4 (.box 0) [.t 0] 0, o 8 (.alloc 1 z0) [] 1, m 9 (.c (ci 0)) 2]) (.seq (.reg 0 none [o 15 (.load true 4) [.t 4] 0, m 16 (.t 1) 1, m 17 (.t 2) 2, o 18 (.call 221) [.t 15, .t 16, .t 17] 3, m 14 (.t 18) 4, o 19 (.ext 0) [.t 14] 5, o 20 (.ext 1) [.t 14] 6, m 10 (.t 19) 7, m 11 (.t 20) 8]) (.seq (.seq (.reg 0 none [m 21 (.t 11) 0]) (.cond (.t 21) (.seq (.reg 0 none [o 22 (.load true 4) [.t 4] 0, ⟨none, .store 4, [.t 8, .t 22], none, 0, 1⟩, m 9 (.c (ci 3)) 2]) .ret) .skip)) (.seq (.reg 1 none [o 24 (.load true 4) [.t 4] 0, m 25 (.t 3) 1, o 26 (.call 16) [.t 24, .t 25] 2, m 23 (.t 26) 3, o 27 (.ext 0) [.t 23] 4, o 28 (.ext 1) [.t 23] 5, o 12 (.alloc 0 z1) [] 6, ⟨none, .store 8, [.t 12, .t 27], none, 0, 7⟩, m 13 (.t 28) 8]) (.seq (.reg 0 none [o 29 (.fld 3) [.t 12] 0, o 30 (.load false 1) [.t 29] 1, o 31 (.bin .add) [.t 30, .c (ci 1)] 2, o 32 (.fld 3) [.t 12] 3, ⟨none, .store 1, [.t 32, .t 31], none, 0, 4⟩]) (.seq (.reg 0 none [o 33 (.load true 4) [.t 4] 0, o 34 (.load true 8) [.t 12] 1, o 35 (.call 103) [.t 33, .t 34] 2, m 36 (.t 1) 3, m 37 (.t 2) 4, m 38 (.t 3) 5, o 39 (.call 222) [.t 35, .t 36, .t 37, .t 38] 6, ⟨none, .store 4, [.t 8, .t 39], none, 0, 7⟩, m 9 (.c (ci 0)) 8]) .ret))))))
def c133 : Fn := { fid := 133, np := 4, ntmps := 40, body := (.jn 1099511627791 c133_1), res := [.cell 8 true 4, .tmp 9] }
def d133_1 (c : Cx) (t0 t1 t2 t3 : V) (H : List Blk) : X := stepK c.pc c.ic c.n (.jn 1099511627791 c133_1) (cn 0 40 [(0, t0), (1, t1), (2, t2), (3, t3)]) H (kTop c133.res)
def b133_1 (c : Cx) (t0 t1 t2 t3 : V) (H : List Blk) : X := newK 2 H fun q H => (aBox (q + 0) t0).go H fun x1 H => (aAlloc (q + 1) z0).go H fun x2 H => (aLoad true 4 x1).go H fun x3 H => p (aCall c.pc 221 [x3, t1, t2]) fun x4 => p (aExt 0 x4) fun x5 => p (aExt 1 x4) fun x6 => condK x6 ((aLoad true 4 x1).go H fun x7 H => (aStore 4 x2 x7).go H fun _ H => bnd (loadV true 4 x2 H) fun x8 => some (.tup [x8, (ci 3)], H)) ((fun (t1 t2 t3 x1 x2 : V) (H : L) (c : Cx) => newK 1 H fun q H => (aLoad true 4 x1).go H fun x9 H => p (aCall c.pc 16 [x9, t3]) fun x10 => (fun (t1 t2 t3 x1 x2 x10 : V) (q : Nat) (H : L) (c : Cx) => p (aExt 0 x10) fun x11 => p (aExt 1 x10) fun x12 => (aAlloc (q + 0) z1).go H fun x13 H => (aStore 8 x13 x11).go H fun _ H => p (aFld 3 x13) fun x14 => (fun (t1 t2 t3 x1 x2 x13 x14 : V) (H : L) (c : Cx) => (aLoad false 1 x14).go H fun x15 H => p (aBin .add x15 (ci 1)) fun x16 => p (aFld 3 x13) fun x17 => (aStore 1 x17 x16).go H fun _ H => (aLoad true 4 x1).go H fun x18 H => (fun (t1 t2 t3 x2 x13 x18 : V) (H : L) (c : Cx) => (aLoad true 8 x13).go H fun x19 H => p (aCall c.pc 103 [x18, x19]) fun x20 => p (aCall c.pc 222 [x20, t1, t2, t3]) fun x21 => (aStore 4 x2 x21).go H fun _ H => bnd (loadV true 4 x2 H) fun x22 => some (.tup [x22, (ci 0)], H)) t1 t2 t3 x2 x13 x18 H c) t1 t2 t3 x1 x2 x13 x14 H c) t1 t2 t3 x1 x2 x10 q H c) t1 t2 t3 x1 x2 H c)
def j133_1 (c : Cx) : F4 := b133_1 c
theorem o133_1 (c : Cx) : d133_1 c = j133_1 c := by
  unfold j133_1
  funext t0 t1 t2 t3 H
  refine Eq.trans (stepK_jn c.pc c.ic c.n _ H _ 1099511627791 c133_1) ?_
  kernel_rfl
def b133_0 (c : Cx) (j1 : F4) (t0 t1 t2 t3 : V) (H : List Blk) : X := j1 t0 t1 t2 t3 H
def s133 (c : Cx) (args : List V) (H : List Blk) : X := argsK 4 args (b133_0 c (j133_1 c) (getT args 0) (getT args 1) (getT args 2) (getT args 3) H)
theorem e133 (pc ic n args H) : runK pc ic n c133 args H = s133 ⟨pc, ic, n⟩ args H := by
  unfold s133; rw [← o133_1]
  kernel_rfl
def L133 : Leaf := ⟨c133, fun pc ic n => s133 ⟨pc, ic, n⟩, e133⟩
theorem kk133 : chkFn Go.Proofs.Tryz.prog ET 133 c133 = true := by kernel_rfl

def c134_1 : C := (.seq (.reg 3 none [o 3 (.box 0) [.t 0] 0, o 5 (.box 1) [.t 2] 1, o 6 (.alloc 2 z14) [] 2]) (.seq (.reg 1 none [o 7 (.bsl 4 z15 0 []) [] 0, o 8 (.fld 2) [.t 3] 1, o 9 (.load false 1) [.t 8] 2, o 10 (.appA 0 4 48) [.t 7, .t 9] 3, o 11 (.fld 2) [.t 3] 4, ⟨none, .store 1, [.t 11, .t 10], none, 0, 5⟩]) (.seq (.reg 0 none [o 12 (.fld 2) [.t 3] 0, o 13 (.load false 1) [.t 12] 1, m 14 (.t 1) 2, o 15 (.load true 4) [.t 5] 3, o 16 (.ix 4) [.t 13, .t 14] 4, ⟨none, .store 4, [.t 16, .t 15], none, 0, 5⟩]) (.seq (.reg 0 none [o 17 (.load true 7) [.t 3] 0, ⟨none, .store 7, [.t 6, .t 17], none, 0, 1⟩]) .ret))))
def c134 : Fn := { fid := 134, np := 3, ntmps := 18, body := (.jn 262151 c134_1), res := [.cell 6 true 7] }
def d134_1 (c : Cx) (t0 t1 t2 : V) (H : List Blk) : X := stepK c.pc c.ic c.n (.jn 262151 c134_1) (cn 0 18 [(0, t0), (1, t1), (2, t2)]) H (kTop c134.res)
def b134_1 (c : Cx) (t0 t1 t2 : V) (H : List Blk) : X := newK 3 H fun q H => (aBox (q + 0) t0).go H fun x1 H => (aBox (q + 1) t2).go H fun x2 H => (aAlloc (q + 2) z14).go H fun x3 H => newK 1 H fun q H => p (aBsl 4 z15 0 [] []) fun x4 => p (aFld 2 x1) fun x5 => (fun (t1 x1 x2 x3 x4 x5 : V) (q : Nat) (H : L) => (aLoad false 1 x5).go H fun x6 H => (aAppA (q + 0) 4 48 x4 x6).go H fun x7 H => p (aFld 2 x1) fun x8 => (aStore 1 x8 x7).go H fun _ H => p (aFld 2 x1) fun x9 => (fun (t1 x1 x2 x3 x9 : V) (H : L) => (aLoad false 1 x9).go H fun x10 H => (aLoad true 4 x2).go H fun x11 H => p (aIx 4 x10 t1) fun x12 => (aStore 4 x12 x11).go H fun _ H => (aLoad true 7 x1).go H fun x13 H => (aStore 7 x3 x13).go H fun _ H => bnd (loadV true 7 x3 H) fun x14 => some (x14, H)) t1 x1 x2 x3 x9 H) t1 x1 x2 x3 x4 x5 q H
def j134_1 (c : Cx) : F3 := b134_1 c
theorem o134_1 (c : Cx) : d134_1 c = j134_1 c := by
  unfold j134_1
  funext t0 t1 t2 H
  refine Eq.trans (stepK_jn c.pc c.ic c.n _ H _ 262151 c134_1) ?_
  kernel_rfl
def b134_0 (c : Cx) (j1 : F3) (t0 t1 t2 : V) (H : List Blk) : X := j1 t0 t1 t2 H
def s134 (c : Cx) (args : List V) (H : List Blk) : X := argsK 3 args (b134_0 c (j134_1 c) (getT args 0) (getT args 1) (getT args 2) H)
theorem e134 (pc ic n args H) : runK pc ic n c134 args H = s134 ⟨pc, ic, n⟩ args H := by
  unfold s134; rw [← o134_1]
  kernel_rfl
def L134 : Leaf := ⟨c134, fun pc ic n => s134 ⟨pc, ic, n⟩, e134⟩
theorem kk134 : chkFn Go.Proofs.Tryz.prog ET 134 c134 = true := by kernel_rfl

def c147_1 : C := (.seq (.reg 2 none [o 4 (.box 0) [.t 0] 0, o 8 (.alloc 1 z0) [] 1, m 9 (.c (ci 0)) 2]) (.seq (.reg 1 none [o 16 (.load true 4) [.t 4] 0, m 17 (.t 1) 1, o 18 (.call 16) [.t 16, .t 17] 2, m 15 (.t 18) 3, o 19 (.ext 0) [.t 15] 4, o 20 (.ext 1) [.t 15] 5, o 10 (.alloc 0 z1) [] 6, ⟨none, .store 8, [.t 10, .t 19], none, 0, 7⟩, m 11 (.t 20) 8]) (.seq (.reg 0 none [o 21 (.load true 8) [.t 10] 0, o 22 (.call 235) [.t 21] 1, m 12 (.t 22) 2]) (.seq (.seq (.reg 0 none [m 23 (.t 12) 0, o 24 (.bin .neq) [.t 23, .c (ci 0)] 1]) (.cond (.t 24) (.seq (.reg 0 none [o 25 (.load true 4) [.t 4] 0, m 26 (.t 12) 1, ⟨none, .store 4, [.t 8, .t 25], none, 0, 2⟩, m 9 (.t 26) 3]) .ret) .skip)) (.seq (.seq (.reg 0 none [m 27 (.t 2) 0, o 28 (.bin .lss) [.t 27, .c (ci 0)] 1, m 29 (.t 28) 2, ⟨some 30, .mov, [.t 2], some (29, false), 0, 3⟩, ⟨some 31, .bin .gtr, [.t 30, .c (ci 32768)], some (29, false), 0, 4⟩, o 32 .pick [.t 29, .c ct, .t 31] 5, m 33 (.t 32) 6, ⟨some 34, .mov, [.t 3], some (33, false), 0, 7⟩, ⟨some 35, .len 1, [.t 34], some (33, false), 0, 8⟩, ⟨some 36, .mov, [.t 2], some (33, false), 0, 9⟩, ⟨some 37, .bin .sub, [.c (ci 32768), .t 36], some (33, false), 0, 10⟩, ⟨some 38, .bin .gtr, [.t 35, .t 37], some (33, false), 0, 11⟩, o 39 .pick [.t 33, .c ct, .t 38] 12]) (.cond (.t 39) (.seq (.reg 0 none [o 40 (.load true 4) [.t 4] 0, ⟨none, .store 4, [.t 8, .t 40], none, 0, 1⟩, m 9 (.c (ci 1)) 2]) .ret) .skip)) (.seq (.reg 0 none [o 42 (.load true 4) [.t 4] 0, o 43 (.call 236) [.t 42] 1, m 41 (.t 43) 2, o 44 (.ext 0) [.t 41] 3, o 45 (.ext 1) [.t 41] 4, m 13 (.t 44) 5, m 14 (.t 45) 6]) (.seq (.seq (.reg 0 (some ⟨true, [], 67⟩) [o 46 (.fld 4) [.t 10] 0, ⟨some 47, .load true 2, [.t 46], none, 1, 1⟩, m 48 (.t 2) 2, m 49 (.t 3) 3, ⟨some 50, .len 1, [.t 49], none, 8, 4⟩, ⟨some 51, .call 237, [.t 47, .t 48, .t 50], none, 31, 5⟩, o 52 (.fld 0) [.t 4] 6, ⟨some 53, .load false 1, [.t 52], none, 64, 7⟩, m 54 (.t 13) 8, ⟨some 55, .bin .sub, [.t 53, .t 54], none, 448, 9⟩, ⟨some 56, .bin .gtr, [.t 51, .t 55], none, 1023, 10⟩]) (.cond (.t 56) (.seq (.reg 0 none [o 57 (.load true 4) [.t 4] 0, ⟨none, .store 4, [.t 8, .t 57], none, 0, 1⟩, m 9 (.c (ci 8)) 2]) .ret) .skip)) (.seq (.reg 0 none [o 58 (.fld 4) [.t 10] 0, o 59 (.load true 2) [.t 58] 1, m 60 (.t 2) 2, m 61 (.t 3) 3, o 62 (.call 238) [.t 59, .t 60, .t 61] 4, o 63 (.fld 4) [.t 10] 5, ⟨none, .store 2, [.t 63, .t 62], none, 0, 6⟩]) (.seq (.reg 0 none [o 64 (.load true 4) [.t 4] 0, o 65 (.load true 8) [.t 10] 1, o 66 (.call 103) [.t 64, .t 65] 2, ⟨none, .store 4, [.t 8, .t 66], none, 0, 3⟩, m 9 (.c (ci 0)) 4]) .ret)))))))))
def c147 : Fn := { fid := 147, np := 4, ntmps := 67, body := (.jn 147573952589676412943 c147_1), res := [.cell 8 true 4, .tmp 9] }
def d147_1 (c : Cx) (t0 t1 t2 t3 : V) (H : List Blk) : X := stepK c.pc c.ic c.n (.jn 147573952589676412943 c147_1) (cn 0 67 [(0, t0), (1, t1), (2, t2), (3, t3)]) H (kTop c147.res)
def b147_1 (c : Cx) (t0 t1 t2 t3 : V) (H : List Blk) : X := newK 2 H fun q H => (aBox (q + 0) t0).go H fun x1 H => (aAlloc (q + 1) z0).go H fun x2 H => newK 1 H fun q H => (aLoad true 4 x1).go H fun x3 H => p (aCall c.pc 16 [x3, t1]) fun x4 => (fun (t2 t3 x1 x2 x4 : V) (q : Nat) (H : L) (c : Cx) => p (aExt 0 x4) fun x5 => p (aExt 1 x4) fun x6 => (aAlloc (q + 0) z1).go H fun x7 H => (aStore 8 x7 x5).go H fun _ H => (aLoad true 8 x7).go H fun x8 H => p (aCall c.pc 235 [x8]) fun x9 => p (aBin .neq x9 (ci 0)) fun x10 => condK x10 ((aLoad true 4 x1).go H fun x11 H => (aStore 4 x2 x11).go H fun _ H => bnd (loadV true 4 x2 H) fun x12 => some (.tup [x12, x9], H)) ((fun (t2 t3 x1 x2 x7 : V) (H : L) (c : Cx) => p (aBin .lss t2 (ci 0)) fun x13 => guardK x13 false (fun k => (aMov t2).go H k) H fun x14 H => (fun (t2 t3 x1 x2 x7 x13 x14 : V) (H : L) (c : Cx) => guardK x13 false (fun k => (aBin .gtr x14 (ci 32768)).go H k) H fun x15 H => p (aPick x13 ct x15) fun x16 => guardK x16 false (fun k => (aMov t3).go H k) H fun x17 H => guardK x16 false (fun k => (aLen 1 x17).go H k) H fun x18 H => (fun (t2 t3 x1 x2 x7 x16 x18 : V) (H : L) (c : Cx) => guardK x16 false (fun k => (aMov t2).go H k) H fun x19 H => guardK x16 false (fun k => (aBin .sub (ci 32768) x19).go H k) H fun x20 H => guardK x16 false (fun k => (aBin .gtr x18 x20).go H k) H fun x21 H => p (aPick x16 ct x21) fun x22 => condK x22 ((aLoad true 4 x1).go H fun x23 H => (aStore 4 x2 x23).go H fun _ H => bnd (loadV true 4 x2 H) fun x24 => some (.tup [x24, (ci 1)], H)) ((fun (t2 t3 x1 x2 x7 : V) (H : L) (c : Cx) => (aLoad true 4 x1).go H fun x25 H => p (aCall c.pc 236 [x25]) fun x26 => p (aExt 0 x26) fun x27 => p (aExt 1 x26) fun x28 => p (aFld 4 x7) fun x29 => (aLoad true 2 x29).go H fun x30 H => (aLen 1 t3).go H fun x31 H => p (aCall c.pc 237 [x30, t2, x31]) fun x32 => (fun (t2 t3 x1 x2 x7 x27 x32 : V) (H : L) (c : Cx) => p (aFld 0 x1) fun x33 => (aLoad false 1 x33).go H fun x34 H => p (aBin .sub x34 x27) fun x35 => p (aBin .gtr x32 x35) fun x36 => condK x36 ((aLoad true 4 x1).go H fun x37 H => (aStore 4 x2 x37).go H fun _ H => bnd (loadV true 4 x2 H) fun x38 => some (.tup [x38, (ci 8)], H)) ((fun (t2 t3 x1 x2 x7 : V) (H : L) (c : Cx) => p (aFld 4 x7) fun x39 => (fun (t2 t3 x1 x2 x7 x39 : V) (H : L) (c : Cx) => (aLoad true 2 x39).go H fun x40 H => p (aCall c.pc 238 [x40, t2, t3]) fun x41 => p (aFld 4 x7) fun x42 => (aStore 2 x42 x41).go H fun _ H => (aLoad true 4 x1).go H fun x43 H => (aLoad true 8 x7).go H fun x44 H => p (aCall c.pc 103 [x43, x44]) fun x45 => (aStore 4 x2 x45).go H fun _ H => bnd (loadV true 4 x2 H) fun x46 => some (.tup [x46, (ci 0)], H)) t2 t3 x1 x2 x7 x39 H c) t2 t3 x1 x2 x7 H c)) t2 t3 x1 x2 x7 x27 x32 H c) t2 t3 x1 x2 x7 H c)) t2 t3 x1 x2 x7 x16 x18 H c) t2 t3 x1 x2 x7 x13 x14 H c) t2 t3 x1 x2 x7 H c)) t2 t3 x1 x2 x4 q H c
def j147_1 (c : Cx) : F4 := b147_1 c
theorem o147_1 (c : Cx) : d147_1 c = j147_1 c := by
  unfold j147_1
  funext t0 t1 t2 t3 H
  refine Eq.trans (stepK_jn c.pc c.ic c.n _ H _ 147573952589676412943 c147_1) ?_
  kernel_rfl
def b147_0 (c : Cx) (j1 : F4) (t0 t1 t2 t3 : V) (H : List Blk) : X := j1 t0 t1 t2 t3 H
def s147 (c : Cx) (args : List V) (H : List Blk) : X := argsK 4 args (b147_0 c (j147_1 c) (getT args 0) (getT args 1) (getT args 2) (getT args 3) H)
theorem e147 (pc ic n args H) : runK pc ic n c147 args H = s147 ⟨pc, ic, n⟩ args H := by
  unfold s147; rw [← o147_1]
  kernel_rfl
def L147 : Leaf := ⟨c147, fun pc ic n => s147 ⟨pc, ic, n⟩, e147⟩
theorem kk147 : chkFn Go.Proofs.Tryz.prog ET 147 c147 = true := by kernel_rfl

def c148_1 : C := (.seq (.reg 2 none [o 3 (.box 0) [.t 0] 0, o 6 (.alloc 1 z0) [] 1, m 7 (.c (ci 0)) 2]) (.seq (.reg 1 none [o 12 (.load true 4) [.t 3] 0, m 13 (.t 1) 1, o 14 (.call 16) [.t 12, .t 13] 2, m 11 (.t 14) 3, o 15 (.ext 0) [.t 11] 4, o 16 (.ext 1) [.t 11] 5, o 8 (.alloc 0 z1) [] 6, ⟨none, .store 8, [.t 8, .t 15], none, 0, 7⟩, m 9 (.t 16) 8]) (.seq (.reg 0 none [o 17 (.load true 8) [.t 8] 0, o 18 (.call 235) [.t 17] 1, m 10 (.t 18) 2]) (.seq (.seq (.reg 0 none [m 19 (.t 10) 0, o 20 (.bin .neq) [.t 19, .c (ci 0)] 1]) (.cond (.t 20) (.seq (.reg 0 none [o 21 (.load true 4) [.t 3] 0, m 22 (.t 10) 1, ⟨none, .store 4, [.t 6, .t 21], none, 0, 2⟩, m 7 (.t 22) 3]) .ret) .skip)) (.seq (.seq (.reg 0 none [m 23 (.t 2) 0, o 24 (.bin .lss) [.t 23, .c (ci 0)] 1, m 25 (.t 24) 2, ⟨some 26, .mov, [.t 2], some (25, false), 0, 3⟩, ⟨some 27, .bin .gtr, [.t 26, .c (ci 32768)], some (25, false), 0, 4⟩, o 28 .pick [.t 25, .c ct, .t 27] 5]) (.cond (.t 28) (.seq (.reg 0 none [o 29 (.load true 4) [.t 3] 0, ⟨none, .store 4, [.t 6, .t 29], none, 0, 1⟩, m 7 (.c (ci 1)) 2]) .ret) .skip)) (.seq (.reg 0 none [o 30 (.fld 4) [.t 8] 0, o 31 (.load true 2) [.t 30] 1, m 32 (.t 2) 2, o 33 (.call 239) [.t 31, .t 32] 3, o 34 (.fld 4) [.t 8] 4, ⟨none, .store 2, [.t 34, .t 33], none, 0, 5⟩]) (.seq (.reg 0 none [o 35 (.load true 4) [.t 3] 0, o 36 (.load true 8) [.t 8] 1, o 37 (.call 103) [.t 35, .t 36] 2, ⟨none, .store 4, [.t 6, .t 37], none, 0, 3⟩, m 7 (.c (ci 0)) 4]) .ret)))))))
def c148 : Fn := { fid := 148, np := 3, ntmps := 38, body := (.jn 274877906951 c148_1), res := [.cell 6 true 4, .tmp 7] }
def d148_1 (c : Cx) (t0 t1 t2 : V) (H : List Blk) : X := stepK c.pc c.ic c.n (.jn 274877906951 c148_1) (cn 0 38 [(0, t0), (1, t1), (2, t2)]) H (kTop c148.res)
def b148_1 (c : Cx) (t0 t1 t2 : V) (H : List Blk) : X := newK 2 H fun q H => (aBox (q + 0) t0).go H fun x1 H => (aAlloc (q + 1) z0).go H fun x2 H => newK 1 H fun q H => (aLoad true 4 x1).go H fun x3 H => p (aCall c.pc 16 [x3, t1]) fun x4 => (fun (t2 x1 x2 x4 : V) (q : Nat) (H : L) (c : Cx) => p (aExt 0 x4) fun x5 => p (aExt 1 x4) fun x6 => (aAlloc (q + 0) z1).go H fun x7 H => (aStore 8 x7 x5).go H fun _ H => (aLoad true 8 x7).go H fun x8 H => p (aCall c.pc 235 [x8]) fun x9 => p (aBin .neq x9 (ci 0)) fun x10 => condK x10 ((aLoad true 4 x1).go H fun x11 H => (aStore 4 x2 x11).go H fun _ H => bnd (loadV true 4 x2 H) fun x12 => some (.tup [x12, x9], H)) ((fun (t2 x1 x2 x7 : V) (H : L) (c : Cx) => p (aBin .lss t2 (ci 0)) fun x13 => guardK x13 false (fun k => (aMov t2).go H k) H fun x14 H => guardK x13 false (fun k => (aBin .gtr x14 (ci 32768)).go H k) H fun x15 H => p (aPick x13 ct x15) fun x16 => condK x16 ((aLoad true 4 x1).go H fun x17 H => (aStore 4 x2 x17).go H fun _ H => bnd (loadV true 4 x2 H) fun x18 => some (.tup [x18, (ci 1)], H)) ((fun (t2 x1 x2 x7 : V) (H : L) (c : Cx) => p (aFld 4 x7) fun x19 => (fun (t2 x1 x2 x7 x19 : V) (H : L) (c : Cx) => (aLoad true 2 x19).go H fun x20 H => p (aCall c.pc 239 [x20, t2]) fun x21 => p (aFld 4 x7) fun x22 => (aStore 2 x22 x21).go H fun _ H => (aLoad true 4 x1).go H fun x23 H => (aLoad true 8 x7).go H fun x24 H => p (aCall c.pc 103 [x23, x24]) fun x25 => (aStore 4 x2 x25).go H fun _ H => bnd (loadV true 4 x2 H) fun x26 => some (.tup [x26, (ci 0)], H)) t2 x1 x2 x7 x19 H c) t2 x1 x2 x7 H c)) t2 x1 x2 x7 H c)) t2 x1 x2 x4 q H c
def j148_1 (c : Cx) : F3 := b148_1 c
theorem o148_1 (c : Cx) : d148_1 c = j148_1 c := by
  unfold j148_1
  funext t0 t1 t2 H
  refine Eq.trans (stepK_jn c.pc c.ic c.n _ H _ 274877906951 c148_1) ?_
  kernel_rfl
def b148_0 (c : Cx) (j1 : F3) (t0 t1 t2 : V) (H : List Blk) : X := j1 t0 t1 t2 H
def s148 (c : Cx) (args : List V) (H : List Blk) : X := argsK 3 args (b148_0 c (j148_1 c) (getT args 0) (getT args 1) (getT args 2) H)
theorem e148 (pc ic n args H) : runK pc ic n c148 args H = s148 ⟨pc, ic, n⟩ args H := by
  unfold s148; rw [← o148_1]
  kernel_rfl
def L148 : Leaf := ⟨c148, fun pc ic n => s148 ⟨pc, ic, n⟩, e148⟩
theorem kk148 : chkFn Go.Proofs.Tryz.prog ET 148 c148 = true := by kernel_rfl

def c150_2 : C := (.seq (.reg 0 none [o 66 (.load true 4) [.t 16] 0, m 67 (.t 1) 1, m 68 (.t 2) 2, m 69 (.t 15) 3, o 70 (.call 222) [.t 66, .t 67, .t 68, .t 69] 4, m 71 (.t 15) 5, ⟨none, .store 4, [.t 8, .t 70], none, 0, 6⟩, m 9 (.t 71) 7, m 10 (.c (ci 0)) 8]) .ret)
def c150_1 : C := (.seq (.reg 3 none [o 4 (.box 0) [.t 0] 0, o 7 (.box 1) [.t 3] 1, o 8 (.alloc 2 z0) [] 2, m 9 (.c (ci 0)) 3, m 10 (.c (ci 0)) 4]) (.seq (.reg 0 none [o 18 (.load true 4) [.t 4] 0, m 19 (.t 1) 1, m 20 (.t 2) 2, o 21 (.call 221) [.t 18, .t 19, .t 20] 3, m 17 (.t 21) 4, o 22 (.ext 0) [.t 17] 5, o 23 (.ext 1) [.t 17] 6, m 11 (.t 22) 7, m 12 (.t 23) 8]) (.seq (.seq (.reg 0 none [m 24 (.t 12) 0]) (.cond (.t 24) (.seq (.reg 0 none [o 25 (.load true 4) [.t 4] 0, ⟨none, .store 4, [.t 8, .t 25], none, 0, 1⟩, m 9 (.c (ci 0)) 2, m 10 (.c (ci 3)) 3]) .ret) .skip)) (.seq (.reg 0 none [o 27 (.load true 4) [.t 4] 0, o 28 (.call 236) [.t 27] 1, m 26 (.t 28) 2, o 29 (.ext 0) [.t 26] 3, o 30 (.ext 1) [.t 26] 4, m 13 (.t 29) 5, m 14 (.t 30) 6]) (.seq (.seq (.reg 0 none [m 31 (.t 14) 0, o 32 (.fld 1) [.t 4] 1, o 33 (.load false 1) [.t 32] 2, o 34 (.bin .geq) [.t 31, .t 33] 3, m 35 (.t 34) 4, ⟨some 36, .mov, [.t 13], some (35, false), 0, 5⟩, ⟨some 37, .fld 4, [.t 7], some (35, false), 0, 6⟩, ⟨some 38, .fld 1, [.t 37], some (35, false), 0, 7⟩, ⟨some 39, .load false 1, [.t 38], some (35, false), 0, 8⟩, ⟨some 40, .len 1, [.t 39], some (35, false), 0, 9⟩, ⟨some 41, .bin .add, [.t 36, .t 40], some (35, false), 0, 10⟩, ⟨some 42, .fld 0, [.t 4], some (35, false), 0, 11⟩, ⟨some 43, .load false 1, [.t 42], some (35, false), 0, 12⟩, ⟨some 44, .bin .gtr, [.t 41, .t 43], some (35, false), 0, 13⟩, o 45 .pick [.t 35, .c ct, .t 44] 14]) (.cond (.t 45) (.seq (.reg 0 none [o 46 (.load true 4) [.t 4] 0, ⟨none, .store 4, [.t 8, .t 46], none, 0, 1⟩, m 9 (.c (ci 0)) 2, m 10 (.c (ci 8)) 3]) .ret) .skip)) (.seq (.reg 0 none [o 47 (.fld 2) [.t 4] 0, o 48 (.load false 1) [.t 47] 1, m 15 (.t 48) 2]) (.seq (.reg 1 none [o 49 (.load true 4) [.t 4] 0, o 16 (.alloc 0 z0) [] 1, ⟨none, .store 4, [.t 16, .t 49], none, 0, 2⟩]) (.seq (.reg 0 none [o 50 (.fld 2) [.t 16] 0, o 51 (.load false 1) [.t 50] 1, o 52 (.bin .add) [.t 51, .c (ci 1)] 2, o 53 (.fld 2) [.t 16] 3, ⟨none, .store 1, [.t 53, .t 52], none, 0, 4⟩]) (.seq (.reg 0 none [o 54 (.load true 4) [.t 16] 0, m 55 (.t 15) 1, o 56 (.fld 1) [.t 7] 2, o 57 (.load false 1) [.t 56] 3, o 58 (.fld 2) [.t 7] 4, o 59 (.load false 1) [.t 58] 5, o 60 (.fld 4) [.t 7] 6, o 61 (.load true 2) [.t 60] 7, o 62 (.fld 6) [.t 7] 8, o 63 (.load false 1) [.t 62] 9, o 64 (.build z1 z7) [.t 55, .t 57, .t 59, .c (ci 1), .t 61, .t 63] 10, o 65 (.call 103) [.t 54, .t 64] 11, ⟨none, .store 4, [.t 16, .t 65], none, 0, 12⟩]) (.jn 9444732965739290525958 c150_2))))))))))
def c150 : Fn := { fid := 150, np := 4, ntmps := 72, body := (.jn 4722366482869645213711 c150_1), res := [.cell 8 true 4, .tmp 9, .tmp 10] }
def d150_1 (c : Cx) (t0 t1 t2 t3 : V) (H : List Blk) : X := stepK c.pc c.ic c.n (.jn 4722366482869645213711 c150_1) (cn 0 72 [(0, t0), (1, t1), (2, t2), (3, t3)]) H (kTop c150.res)
def d150_2 (c : Cx) (t1 t2 t8 t15 t16 : V) (H : List Blk) : X := stepK c.pc c.ic c.n (.jn 9444732965739290525958 c150_2) (cn 0 72 [(1, t1), (2, t2), (8, t8), (15, t15), (16, t16)]) H (kTop c150.res)
def b150_2 (c : Cx) (t1 t2 t8 t15 t16 : V) (H : List Blk) : X := (aLoad true 4 t16).go H fun x1 H => p (aCall c.pc 222 [x1, t1, t2, t15]) fun x2 => (aStore 4 t8 x2).go H fun _ H => bnd (loadV true 4 t8 H) fun x3 => some (.tup [x3, t15, (ci 0)], H)
def j150_2 (c : Cx) : F5 := b150_2 c
theorem o150_2 (c : Cx) : d150_2 c = j150_2 c := by
  unfold j150_2
  funext t1 t2 t8 t15 t16 H
  refine Eq.trans (stepK_jn c.pc c.ic c.n _ H _ 9444732965739290525958 c150_2) ?_
  kernel_rfl
def b150_1 (c : Cx) (j2 : F5) (t0 t1 t2 t3 : V) (H : List Blk) : X := newK 3 H fun q H => (aBox (q + 0) t0).go H fun x1 H => (aBox (q + 1) t3).go H fun x2 H => (aAlloc (q + 2) z0).go H fun x3 H => (aLoad true 4 x1).go H fun x4 H => p (aCall c.pc 221 [x4, t1, t2]) fun x5 => p (aExt 0 x5) fun x6 => p (aExt 1 x5) fun x7 => condK x7 ((aLoad true 4 x1).go H fun x8 H => (aStore 4 x3 x8).go H fun _ H => bnd (loadV true 4 x3 H) fun x9 => some (.tup [x9, (ci 0), (ci 3)], H)) ((fun (t1 t2 x1 x2 x3 : V) (H : L) (c : Cx) (j2 : F5) => (aLoad true 4 x1).go H fun x10 H => p (aCall c.pc 236 [x10]) fun x11 => p (aExt 0 x11) fun x12 => p (aExt 1 x11) fun x13 => p (aFld 1 x1) fun x14 => (fun (t1 t2 x1 x2 x3 x12 x13 x14 : V) (H : L) (c : Cx) (j2 : F5) => (aLoad false 1 x14).go H fun x15 H => p (aBin .geq x13 x15) fun x16 => guardK x16 false (fun k => (aMov x12).go H k) H fun x17 H => guardK x16 false (fun k => (aFld 4 x2).go H k) H fun x18 H => (fun (t1 t2 x1 x2 x3 x16 x17 x18 : V) (H : L) (c : Cx) (j2 : F5) => guardK x16 false (fun k => (aFld 1 x18).go H k) H fun x19 H => guardK x16 false (fun k => (aLoad false 1 x19).go H k) H fun x20 H => guardK x16 false (fun k => (aLen 1 x20).go H k) H fun x21 H => guardK x16 false (fun k => (aBin .add x17 x21).go H k) H fun x22 H => (fun (t1 t2 x1 x2 x3 x16 x22 : V) (H : L) (c : Cx) (j2 : F5) => guardK x16 false (fun k => (aFld 0 x1).go H k) H fun x23 H => guardK x16 false (fun k => (aLoad false 1 x23).go H k) H fun x24 H => guardK x16 false (fun k => (aBin .gtr x22 x24).go H k) H fun x25 H => p (aPick x16 ct x25) fun x26 => condK x26 ((aLoad true 4 x1).go H fun x27 H => (aStore 4 x3 x27).go H fun _ H => bnd (loadV true 4 x3 H) fun x28 => some (.tup [x28, (ci 0), (ci 8)], H)) ((fun (t1 t2 x1 x2 x3 : V) (H : L) (c : Cx) (j2 : F5) => p (aFld 2 x1) fun x29 => (aLoad false 1 x29).go H fun x30 H => newK 1 H fun q H => (aLoad true 4 x1).go H fun x31 H => (aAlloc (q + 0) z0).go H fun x32 H => (aStore 4 x32 x31).go H fun _ H => p (aFld 2 x32) fun x33 => (fun (t1 t2 x2 x3 x30 x32 x33 : V) (H : L) (c : Cx) (j2 : F5) => (aLoad false 1 x33).go H fun x34 H => p (aBin .add x34 (ci 1)) fun x35 => p (aFld 2 x32) fun x36 => (aStore 1 x36 x35).go H fun _ H => (aLoad true 4 x32).go H fun x37 H => p (aFld 1 x2) fun x38 => (aLoad false 1 x38).go H fun x39 H => p (aFld 2 x2) fun x40 => (fun (t1 t2 x2 x3 x30 x32 x37 x39 x40 : V) (H : L) (c : Cx) (j2 : F5) => (aLoad false 1 x40).go H fun x41 H => p (aFld 4 x2) fun x42 => (aLoad true 2 x42).go H fun x43 H => p (aFld 6 x2) fun x44 => (fun (t1 t2 x3 x30 x32 x37 x39 x41 x43 x44 : V) (H : L) (c : Cx) (j2 : F5) => (aLoad false 1 x44).go H fun x45 H => p (aBuild z1 z7 [x30, x39, x41, (ci 1), x43, x45]) fun x46 => p (aCall c.pc 103 [x37, x46]) fun x47 => (aStore 4 x32 x47).go H fun _ H => j2 t1 t2 x3 x30 x32 H) t1 t2 x3 x30 x32 x37 x39 x41 x43 x44 H c j2) t1 t2 x2 x3 x30 x32 x37 x39 x40 H c j2) t1 t2 x2 x3 x30 x32 x33 H c j2) t1 t2 x1 x2 x3 H c j2)) t1 t2 x1 x2 x3 x16 x22 H c j2) t1 t2 x1 x2 x3 x16 x17 x18 H c j2) t1 t2 x1 x2 x3 x12 x13 x14 H c j2) t1 t2 x1 x2 x3 H c j2)
def j150_1 (c : Cx) : F4 := b150_1 c (j150_2 c)
theorem o150_1 (c : Cx) : d150_1 c = j150_1 c := by
  unfold j150_1; rw [← o150_2]
  funext t0 t1 t2 t3 H
  refine Eq.trans (stepK_jn c.pc c.ic c.n _ H _ 4722366482869645213711 c150_1) ?_
  kernel_rfl
def b150_0 (c : Cx) (j1 : F4) (t0 t1 t2 t3 : V) (H : List Blk) : X := j1 t0 t1 t2 t3 H
def s150 (c : Cx) (args : List V) (H : List Blk) : X := argsK 4 args (b150_0 c (j150_1 c) (getT args 0) (getT args 1) (getT args 2) (getT args 3) H)
theorem e150 (pc ic n args H) : runK pc ic n c150 args H = s150 ⟨pc, ic, n⟩ args H := by
  unfold s150; rw [← o150_1]
  kernel_rfl
def L150 : Leaf := ⟨c150, fun pc ic n => s150 ⟨pc, ic, n⟩, e150⟩
theorem kk150 : chkFn Go.Proofs.Tryz.prog ET 150 c150 = true := by kernel_rfl

def l151_0 : List O := [m 26 (.t 3) 0, o 27 (.fld 1) [.t 1] 1, ⟨some 28, .load false 1, [.t 27], none, 2, 2⟩, ⟨some 29, .call 241, [.t 28], none, 6, 3⟩, ⟨some 30, .app 0 1 1, [.t 26, .t 29], none, 15, 4⟩, o 31 (.fld 2) [.t 1] 5, ⟨some 32, .load false 1, [.t 31], none, 32, 6⟩, ⟨some 33, .call 241, [.t 32], none, 127, 7⟩, ⟨some 34, .app 1 1 1, [.t 30, .t 33], none, 255, 8⟩, ⟨some 2, .mov, [.t 34], none, 511, 9⟩]
def c151_2 : C := (.seq (.reg 1 none [m 20 (.t 3) 0, o 21 (.fld 3) [.t 1] 1, o 22 (.load false 1) [.t 21] 2, o 23 (.toInt .u8) [.t 22] 3, o 24 (.bsl 1 [(.int .u8 0)] 1 [0]) [.t 23] 4, o 25 (.app 0 1 1) [.t 20, .t 24] 5, m 3 (.t 25) 6]) (.seq (.reg 2 (some ⟨false, [], 35⟩) l151_0) .ret))
def l151_1 : List O := [o 7 (.fld 0) [.t 1] 0, ⟨some 8, .load false 1, [.t 7], none, 1, 1⟩, o 10 (.fld 1) [.t 1] 3, ⟨some 11, .load false 1, [.t 10], none, 4, 4⟩, ⟨some 12, .len 1, [.t 11], none, 12, 5⟩, o 15 (.fld 2) [.t 1] 8, ⟨some 16, .load false 1, [.t 15], none, 32, 9⟩, ⟨some 17, .len 1, [.t 16], none, 96, 10⟩, ⟨some 9, .icall 240, [.t 8], none, 3, 2⟩, ⟨some 13, .icall 240, [.t 12], none, 287, 6⟩, ⟨some 14, .app 0 1 1, [.t 9, .t 13], none, 799, 7⟩, ⟨some 18, .icall 240, [.t 17], none, 2047, 11⟩, ⟨some 19, .app 1 1 1, [.t 14, .t 18], none, 4095, 12⟩, ⟨some 3, .mov, [.t 19], none, 8191, 13⟩]
def c151_1 : C := (.seq (.reg 1 none [o 1 (.box 0) [.t 0] 0, m 2 (.c .nilS) 1]) (.seq (.seq (.reg 0 none [o 4 (.load true 4) [.t 1] 0, o 5 (.call 158) [.t 4] 1, o 6 (.un .not) [.t 5] 2]) (.cond (.t 6) (.seq (.reg 0 none [m 2 (.c .nilS) 0]) .ret) .skip)) (.seq (.reg 2 (some ⟨false, [], 35⟩) l151_1) (.jn 68719476746 c151_2))))
def c151 : Fn := { fid := 151, np := 1, ntmps := 35, body := (.jn 34359738369 c151_1), res := [.tmp 2] }
def d151_1 (c : Cx) (t0 : V) (H : List Blk) : X := stepK c.pc c.ic c.n (.jn 34359738369 c151_1) (cn 0 35 [(0, t0)]) H (kTop c151.res)
def d151_2 (c : Cx) (t1 t3 : V) (H : List Blk) : X := stepK c.pc c.ic c.n (.jn 68719476746 c151_2) (cn 0 35 [(1, t1), (3, t3)]) H (kTop c151.res)
def b151_2 (c : Cx) (t1 t3 : V) (H : List Blk) : X := newK 1 H fun q H => p (aFld 3 t1) fun x1 => (fun (t1 t3 x1 : V) (q : Nat) (H : L) (c : Cx) => (aLoad false 1 x1).go H fun x2 H => p (aToInt .u8 x2) fun x3 => p (aBsl 1 [(.int .u8 0)] 1 [0] [x3]) fun x4 => (aApp (q + 0) 1 1 t3 x4).go H fun x5 H => newK 2 H fun q H => drawnK c.pc c.ic l151_0 q (cn 0 35 [(1, t1), (3, x5), (20, t3), (21, x1), (22, x2), (23, x3), (24, x4), (25, x5)]) H fun ts5 H => some ((getT ts5 2), H)) t1 t3 x1 q H c
def j151_2 (c : Cx) : F2 := b151_2 c
theorem o151_2 (c : Cx) : d151_2 c = j151_2 c := by
  unfold j151_2
  funext t1 t3 H
  refine Eq.trans (stepK_jn c.pc c.ic c.n _ H _ 68719476746 c151_2) ?_
  kernel_rfl
def b151_1 (c : Cx) (j2 : F2) (t0 : V) (H : List Blk) : X := newK 1 H fun q H => (aBox (q + 0) t0).go H fun x1 H => (aLoad true 4 x1).go H fun x2 H => p (aCall c.pc 158 [x2]) fun x3 => p (aUn .not x3) fun x4 => condK x4 (some (.nilS, H)) (newK 2 H fun q H => drawnK c.pc c.ic l151_1 q (cn 0 35 [(0, t0), (1, x1), (2, .nilS), (4, x2), (5, x3), (6, x4)]) H fun ts4 H => j2 (getT ts4 1) (getT ts4 3) H)
def j151_1 (c : Cx) : F1 := b151_1 c (j151_2 c)
theorem o151_1 (c : Cx) : d151_1 c = j151_1 c := by
  unfold j151_1; rw [← o151_2]
  funext t0 H
  refine Eq.trans (stepK_jn c.pc c.ic c.n _ H _ 34359738369 c151_1) ?_
  kernel_rfl
def b151_0 (c : Cx) (j1 : F1) (t0 : V) (H : List Blk) : X := j1 t0 H
def s151 (c : Cx) (args : List V) (H : List Blk) : X := argsK 1 args (b151_0 c (j151_1 c) (getT args 0) H)
theorem e151 (pc ic n args H) : runK pc ic n c151 args H = s151 ⟨pc, ic, n⟩ args H := by
  unfold s151; rw [← o151_1]
  kernel_rfl
def L151 : Leaf := ⟨c151, fun pc ic n => s151 ⟨pc, ic, n⟩, e151⟩
theorem kk151 : chkFn Go.Proofs.Tryz.prog ET 151 c151 = true := by kernel_rfl

def c152_2 : C := (.seq (.seq (.reg 0 none [m 4 (.t 3) 0, o 5 (.fld 0) [.t 1] 1, o 6 (.load false 1) [.t 5] 2, o 7 (.len 1) [.t 6] 3, o 8 (.bin .lss) [.t 4, .t 7] 4]) (.cond (.t 8) .skip (.exit 0))) (.seq (.blk 1 (.seq (.reg 0 none [o 11 (.fld 0) [.t 1] 0, o 12 (.load false 1) [.t 11] 1, m 13 (.t 3) 2, o 14 (.ix 1) [.t 12, .t 13] 3, o 15 (.load false 1) [.t 14] 4, o 16 (.bin .lss) [.t 15, .c (ci 1)] 5, m 17 (.t 16) 6, ⟨some 18, .fld 0, [.t 1], some (17, false), 0, 7⟩, ⟨some 19, .load false 1, [.t 18], some (17, false), 0, 8⟩, ⟨some 20, .mov, [.t 3], some (17, false), 0, 9⟩, ⟨some 21, .ix 1, [.t 19, .t 20], some (17, false), 0, 10⟩, ⟨some 22, .load false 1, [.t 21], some (17, false), 0, 11⟩, ⟨some 23, .bin .gtr, [.t 22, .c (ci 3)], some (17, false), 0, 12⟩, o 24 .pick [.t 17, .c ct, .t 23] 13]) (.cond (.t 24) (.seq (.reg 0 none [m 2 (.c cf) 0]) .ret) .skip))) (.reg 0 none [m 9 (.t 3) 0, o 10 (.bin .add) [.t 9, .c (ci 1)] 1, m 3 (.t 10) 2])))
def c152_s1 : C := (.seq (.reg 0 none [o 25 (.fld 0) [.t 1] 0, o 26 (.load false 1) [.t 25] 1, o 27 (.len 1) [.t 26] 2, o 28 (.bin .geq) [.t 27, .c (ci 1)] 3, m 29 (.t 28) 4, ⟨some 30, .fld 0, [.t 1], some (29, true), 0, 5⟩, ⟨some 31, .load false 1, [.t 30], some (29, true), 0, 6⟩, ⟨some 32, .len 1, [.t 31], some (29, true), 0, 7⟩, ⟨some 33, .bin .leq, [.t 32, .c (ci 8)], some (29, true), 0, 8⟩, o 34 .pick [.t 29, .t 33, .c cf] 9, m 35 (.t 34) 10, ⟨some 36, .fld 0, [.t 1], some (35, true), 0, 11⟩, ⟨some 37, .load false 1, [.t 36], some (35, true), 0, 12⟩, ⟨some 38, .ix 1, [.t 37, .c (ci 0)], some (35, true), 0, 13⟩, ⟨some 39, .load false 1, [.t 38], some (35, true), 0, 14⟩, ⟨some 40, .bin .eql, [.t 39, .c (ci 1)], some (35, true), 0, 15⟩, o 41 .pick [.t 35, .t 40, .c cf] 16, m 42 (.t 41) 17, ⟨some 43, .fld 1, [.t 1], some (42, true), 0, 18⟩, ⟨some 44, .load false 1, [.t 43], some (42, true), 0, 19⟩, ⟨some 45, .bin .geq, [.t 44, .c (ci 1)], some (42, true), 0, 20⟩, o 46 .pick [.t 42, .t 45, .c cf] 21, m 47 (.t 46) 22, ⟨some 48, .fld 1, [.t 1], some (47, true), 0, 23⟩, ⟨some 49, .load false 1, [.t 48], some (47, true), 0, 24⟩, ⟨some 50, .bin .leq, [.t 49, .c (ci 4)], some (47, true), 0, 25⟩, o 51 .pick [.t 47, .t 50, .c cf] 26, m 2 (.t 51) 27]) .ret)
def c152_1 : C := (.seq (.reg 1 none [o 1 (.box 0) [.t 0] 0, m 2 (.c cf) 1]) (.seq (.seq (.reg 0 none [m 3 (.c (ci 0)) 0]) (.blk 0 (.loop 9007199254741002 false c152_2))) c152_s1))
def c152 : Fn := { fid := 152, np := 1, ntmps := 52, body := (.jn 4503599627370497 c152_1), res := [.tmp 2] }
def d152_1 (c : Cx) (t0 : V) (H : List Blk) : X := stepK c.pc c.ic c.n (.jn 4503599627370497 c152_1) (cn 0 52 [(0, t0)]) H (kTop c152.res)
def k152_1 (c : Cx) : KT := thenK (stepK c.pc c.ic c.n c152_s1) (kTop c152.res)
def k152_2 (c : Cx) : KT := blkK 0 (k152_1 c)
def d152_2 (c : Cx) (m n2 : Nat) (t1 t3 : V) (H : List Blk) : X := jnK (loopsK (stepK c.pc c.ic c.n c152_2) 9007199254741002 false n2 m) (cn 0 52 [(1, t1), (3, t3)]) H (k152_2 c) 9007199254741002
def b152_2 (c : Cx) (r2 : F2) (n2 : Nat) (t1 t3 : V) (H : List Blk) : X := p (aFld 0 t1) fun x1 => (aLoad false 1 x1).go H fun x2 H => (aLen 1 x2).go H fun x3 H => p (aBin .lss t3 x3) fun x4 => condK x4 ((fun (t1 t3 : V) (H : L) (r2 : F2) => p (aFld 0 t1) fun x5 => (aLoad false 1 x5).go H fun x6 H => p (aIx 1 x6 t3) fun x7 => (aLoad false 1 x7).go H fun x8 H => (fun (t1 t3 x8 : V) (H : L) (r2 : F2) => p (aBin .lss x8 (ci 1)) fun x9 => guardK x9 false (fun k => (aFld 0 t1).go H k) H fun x10 H => guardK x9 false (fun k => (aLoad false 1 x10).go H k) H fun x11 H => guardK x9 false (fun k => (aMov t3).go H k) H fun x12 H => (fun (t1 t3 x9 x11 x12 : V) (H : L) (r2 : F2) => guardK x9 false (fun k => (aIx 1 x11 x12).go H k) H fun x13 H => guardK x9 false (fun k => (aLoad false 1 x13).go H k) H fun x14 H => guardK x9 false (fun k => (aBin .gtr x14 (ci 3)).go H k) H fun x15 H => p (aPick x9 ct x15) fun x16 => condK x16 (some (cf, H)) (p (aBin .add t3 (ci 1)) fun x17 => r2 t1 x17 H)) t1 t3 x9 x11 x12 H r2) t1 t3 x8 H r2) t1 t3 H r2) ((fun (t1 : V) (H : L) => p (aFld 0 t1) fun x18 => (aLoad false 1 x18).go H fun x19 H => (aLen 1 x19).go H fun x20 H => (fun (t1 x20 : V) (H : L) => p (aBin .geq x20 (ci 1)) fun x21 => guardK x21 true (fun k => (aFld 0 t1).go H k) H fun x22 H => guardK x21 true (fun k => (aLoad false 1 x22).go H k) H fun x23 H => guardK x21 true (fun k => (aLen 1 x23).go H k) H fun x24 H => (fun (t1 x21 x24 : V) (H : L) => guardK x21 true (fun k => (aBin .leq x24 (ci 8)).go H k) H fun x25 H => p (aPick x21 x25 cf) fun x26 => guardK x26 true (fun k => (aFld 0 t1).go H k) H fun x27 H => guardK x26 true (fun k => (aLoad false 1 x27).go H k) H fun x28 H => (fun (t1 x26 x28 : V) (H : L) => guardK x26 true (fun k => (aIx 1 x28 (ci 0)).go H k) H fun x29 H => guardK x26 true (fun k => (aLoad false 1 x29).go H k) H fun x30 H => guardK x26 true (fun k => (aBin .eql x30 (ci 1)).go H k) H fun x31 H => p (aPick x26 x31 cf) fun x32 => (fun (t1 x32 : V) (H : L) => guardK x32 true (fun k => (aFld 1 t1).go H k) H fun x33 H => guardK x32 true (fun k => (aLoad false 1 x33).go H k) H fun x34 H => guardK x32 true (fun k => (aBin .geq x34 (ci 1)).go H k) H fun x35 H => p (aPick x32 x35 cf) fun x36 => (fun (t1 x36 : V) (H : L) => guardK x36 true (fun k => (aFld 1 t1).go H k) H fun x37 H => guardK x36 true (fun k => (aLoad false 1 x37).go H k) H fun x38 H => guardK x36 true (fun k => (aBin .leq x38 (ci 4)).go H k) H fun x39 H => p (aPick x36 x39 cf) fun x40 => some (x40, H)) t1 x36 H) t1 x32 H) t1 x26 x28 H) t1 x21 x24 H) t1 x20 H) t1 H)
def j152_2 (c : Cx) : Nat → Nat → F2 := recN (fun _ _ _ _ => none) fun ih n2 => b152_2 c (ih n2) n2
theorem o152_2 (c : Cx) : d152_2 c = j152_2 c := by
  unfold j152_2
  refine recN_ok (by kernel_rfl) fun m => funext fun n2 => ?_
  funext t1 t3 H
  refine Eq.trans (jnK_eq 9007199254741002 _ _ H _) ?_
  kernel_rfl
def b152_1 (c : Cx) (j2 : Nat → Nat → F2) (t0 : V) (H : List Blk) : X := newK 1 H fun q H => (aBox (q + 0) t0).go H fun x1 H => j2 c.n H.length x1 (ci 0) H
def j152_1 (c : Cx) : F1 := b152_1 c (j152_2 c)
theorem o152_1 (c : Cx) : d152_1 c = j152_1 c := by
  unfold j152_1; rw [← o152_2]
  funext t0 H
  refine Eq.trans (stepK_jn c.pc c.ic c.n _ H _ 4503599627370497 c152_1) ?_
  kernel_rfl
def b152_0 (c : Cx) (j1 : F1) (t0 : V) (H : List Blk) : X := j1 t0 H
def s152 (c : Cx) (args : List V) (H : List Blk) : X := argsK 1 args (b152_0 c (j152_1 c) (getT args 0) H)
theorem e152 (pc ic n args H) : runK pc ic n c152 args H = s152 ⟨pc, ic, n⟩ args H := by
  unfold s152; rw [← o152_1]
  kernel_rfl
def L152 : Leaf := ⟨c152, fun pc ic n => s152 ⟨pc, ic, n⟩, e152⟩
theorem kk152 : chkFn Go.Proofs.Tryz.prog ET 152 c152 = true := by kernel_rfl

def c153_2 : C := (.cond (.t 74) (.seq (.reg 0 none [m 2 (.c cf) 0]) .ret) .skip)
def c153_4 : C := (.seq (.reg 0 none [m 120 (.t 7) 0, o 121 (.fld 3) [.t 6] 1, o 122 (.load false 1) [.t 121] 2, o 123 (.bin .neq) [.t 120, .t 122] 3, m 124 (.t 123) 4, ⟨some 125, .fld 1, [.t 6], some (124, false), 0, 5⟩, ⟨some 126, .load false 1, [.t 125], some (124, false), 0, 6⟩, ⟨some 127, .bin .eql, [.t 126, .c (ci 2)], some (124, false), 0, 7⟩, ⟨some 128, .mov, [.t 127], some (124, false), 0, 8⟩, ⟨some 129, .mov, [.t 7], some (128, true), 0, 9⟩, ⟨some 130, .bin .neq, [.t 129, .c (ci 1)], some (128, true), 0, 10⟩, ⟨some 131, .pick, [.t 128, .t 130, .c cf], some (124, false), 0, 11⟩, o 132 .pick [.t 124, .c ct, .t 131] 12]) (.cond (.t 132) (.seq (.reg 0 none [m 2 (.c cf) 0]) .ret) .skip))
def c153_s1 : C := (.reg 0 none [m 78 (.t 5) 0, o 79 (.bin .add) [.t 78, .c (ci 1)] 1, m 5 (.t 79) 2])
def c153_3 : C := (.seq (.seq (.reg 0 none [m 75 (.t 5) 0, m 76 (.t 4) 1, o 77 (.bin .lss) [.t 75, .t 76] 2]) (.cond (.t 77) .skip (.exit 0))) (.seq (.blk 1 (.seq (.reg 1 none [o 80 (.fld 3) [.t 1] 0, o 81 (.load false 1) [.t 80] 1, m 82 (.t 5) 2, o 83 (.ix 8) [.t 81, .t 82] 3, o 84 (.load true 8) [.t 83] 4, o 6 (.alloc 0 z1) [] 5, ⟨none, .store 8, [.t 6, .t 84], none, 0, 6⟩]) (.seq (.seq (.reg 0 (some ⟨true, [], 146⟩) [o 85 (.fld 0) [.t 6] 0, ⟨some 86, .load false 1, [.t 85], none, 1, 1⟩, o 87 (.fld 2) [.t 1] 2, ⟨some 88, .load false 1, [.t 87], none, 4, 3⟩, ⟨some 89, .bin .geq, [.t 86, .t 88], none, 15, 4⟩, ⟨some 90, .mov, [.t 89], none, 31, 5⟩, ⟨some 91, .mov, [.t 5], some (90, false), 63, 6⟩, ⟨some 92, .bin .gtr, [.t 91, .c (ci 0)], some (90, false), 127, 7⟩, ⟨some 93, .mov, [.t 92], some (90, false), 255, 8⟩, ⟨some 94, .fld 0, [.t 6], some (93, true), 511, 9⟩, ⟨some 95, .load false 1, [.t 94], some (93, true), 1023, 10⟩, ⟨some 96, .fld 3, [.t 1], some (93, true), 511, 11⟩, ⟨some 97, .load false 1, [.t 96], some (93, true), 2559, 12⟩, ⟨some 98, .mov, [.t 5], some (93, true), 511, 13⟩, ⟨some 99, .bin .sub, [.t 98, .c (ci 1)], some (93, true), 8703, 14⟩, ⟨some 100, .ix 8, [.t 97, .t 99], some (93, true), 31231, 15⟩, ⟨some 101, .fld 0, [.t 100], some (93, true), 63999, 16⟩, ⟨some 102, .load false 1, [.t 101], some (93, true), 129535, 17⟩, ⟨some 103, .bin .leq, [.t 95, .t 102], some (93, true), 262143, 18⟩, ⟨some 104, .pick, [.t 93, .t 103, .c cf], some (90, false), 524287, 19⟩, ⟨some 105, .pick, [.t 90, .c ct, .t 104], none, 1048575, 20⟩, ⟨some 106, .mov, [.t 105], none, 2097151, 21⟩, ⟨some 107, .load true 4, [.t 1], some (106, false), 4194303, 22⟩, ⟨some 108, .load true 8, [.t 6], some (106, false), 4194303, 23⟩, ⟨some 109, .call 242, [.t 107, .t 108], some (106, false), 16777215, 24⟩, ⟨some 110, .un .not, [.t 109], some (106, false), 33554431, 25⟩, ⟨some 111, .pick, [.t 106, .c ct, .t 110], none, 67108863, 26⟩]) (.cond (.t 111) (.seq (.reg 0 none [m 2 (.c cf) 0]) .ret) .skip)) (.seq (.reg 0 none [o 112 (.load true 4) [.t 1] 0, o 113 (.fld 0) [.t 6] 1, o 114 (.load false 1) [.t 113] 2, o 115 (.call 243) [.t 112, .t 114] 3, m 7 (.t 115) 4]) (.seq (.seq (.reg 0 none [m 116 (.t 5) 0, o 117 (.bin .eql) [.t 116, .c (ci 0)] 1]) (.cond (.t 117) (.reg 0 none [m 118 (.t 7) 0, o 119 (.bin .add) [.t 118, .c (ci 1)] 1, m 7 (.t 119) 2]) .skip)) (.jn 356811923176489970264571492362373784095686898 c153_4)))))) c153_s1))
def c153_s2 : C := (.seq (.reg 0 none [o 134 (.load true 4) [.t 1] 0, o 135 (.bsl 1 [(.int .i64 0)] 1 [0]) [.c (ci 1)] 1, o 136 (.call 244) [.t 134, .c (ci 1), .c (ci 16), .t 135] 2, m 133 (.t 136) 3, o 137 (.ext 0) [.t 133] 4, o 138 (.ext 1) [.t 133] 5, m 8 (.t 137) 6, m 9 (.t 138) 7]) (.seq (.reg 0 none [m 139 (.t 9) 0, m 140 (.t 139) 1, ⟨some 141, .mov, [.t 8], some (140, true), 0, 2⟩, ⟨some 142, .len 1, [.t 141], some (140, true), 0, 3⟩, ⟨some 143, .mov, [.t 4], some (140, true), 0, 4⟩, ⟨some 144, .bin .eql, [.t 142, .t 143], some (140, true), 0, 5⟩, o 145 .pick [.t 140, .t 144, .c cf] 6, m 2 (.t 145) 7]) .ret))
def c153_s3 : C := (.seq (.seq (.reg 0 none [m 5 (.c (ci 0)) 0]) (.blk 0 (.loop 267608942382367477698428619271780338071765042 true c153_3))) c153_s2)
def c153_1 : C := (.seq (.reg 1 none [o 1 (.box 0) [.t 0] 0, m 2 (.c cf) 1]) (.seq (.reg 0 none [o 11 (.load true 4) [.t 1] 0, o 12 (.call 236) [.t 11] 1, m 10 (.t 12) 2, o 13 (.ext 0) [.t 10] 3, o 14 (.ext 1) [.t 10] 4, m 3 (.t 13) 5, m 4 (.t 14) 6]) (.seq (.seq (.reg 0 none [o 15 (.fld 0) [.t 1] 0, o 16 (.load false 1) [.t 15] 1, o 17 (.bin .lss) [.t 16, .c (ci 0)] 2, m 18 (.t 17) 3, ⟨some 19, .fld 0, [.t 1], some (18, false), 0, 4⟩, ⟨some 20, .load false 1, [.t 19], some (18, false), 0, 5⟩, ⟨some 21, .bin .gtr, [.t 20, .c (ci 1048576)], some (18, false), 0, 6⟩, o 22 .pick [.t 18, .c ct, .t 21] 7, m 23 (.t 22) 8, ⟨some 24, .fld 1, [.t 1], some (23, false), 0, 9⟩, ⟨some 25, .load false 1, [.t 24], some (23, false), 0, 10⟩, ⟨some 26, .bin .lss, [.t 25, .c (ci 1)], some (23, false), 0, 11⟩, o 27 .pick [.t 23, .c ct, .t 26] 12, m 28 (.t 27) 13, ⟨some 29, .fld 1, [.t 1], some (28, false), 0, 14⟩, ⟨some 30, .load false 1, [.t 29], some (28, false), 0, 15⟩, ⟨some 31, .bin .gtr, [.t 30, .c (ci 4096)], some (28, false), 0, 16⟩, o 32 .pick [.t 28, .c ct, .t 31] 17, m 33 (.t 32) 18, ⟨some 34, .mov, [.t 3], some (33, false), 0, 19⟩, ⟨some 35, .fld 0, [.t 1], some (33, false), 0, 20⟩, ⟨some 36, .load false 1, [.t 35], some (33, false), 0, 21⟩, ⟨some 37, .bin .gtr, [.t 34, .t 36], some (33, false), 0, 22⟩, o 38 .pick [.t 33, .c ct, .t 37] 23, m 39 (.t 38) 24, ⟨some 40, .mov, [.t 4], some (39, false), 0, 25⟩, ⟨some 41, .fld 1, [.t 1], some (39, false), 0, 26⟩, ⟨some 42, .load false 1, [.t 41], some (39, false), 0, 27⟩, ⟨some 43, .bin .gtr, [.t 40, .t 42], some (39, false), 0, 28⟩, o 44 .pick [.t 39, .c ct, .t 43] 29, m 45 (.t 44) 30, ⟨some 46, .fld 2, [.t 1], some (45, false), 0, 31⟩, ⟨some 47, .load false 1, [.t 46], some (45, false), 0, 32⟩, ⟨some 48, .bin .lss, [.t 47, .c (ci 1)], some (45, false), 0, 33⟩, o 49 .pick [.t 45, .c ct, .t 48] 34, m 50 (.t 49) 35, ⟨some 51, .fld 2, [.t 1], some (50, false), 0, 36⟩, ⟨some 52, .load false 1, [.t 51], some (50, false), 0, 37⟩, ⟨some 53, .bin .geq, [.t 52, .c (ci 4611686018427387904)], some (50, false), 0, 38⟩, o 54 .pick [.t 50, .c ct, .t 53] 39, m 55 (.t 54) 40, ⟨some 56, .mov, [.t 4], some (55, false), 0, 41⟩, ⟨some 57, .bin .eql, [.t 56, .c (ci 0)], some (55, false), 0, 42⟩, o 58 .pick [.t 55, .c ct, .t 57] 43, m 59 (.t 58) 44, ⟨some 60, .fld 3, [.t 1], some (59, false), 0, 45⟩, ⟨some 61, .load false 1, [.t 60], some (59, false), 0, 46⟩, ⟨some 62, .ix 8, [.t 61, .c (ci 0)], some (59, false), 0, 47⟩, ⟨some 63, .fld 0, [.t 62], some (59, false), 0, 48⟩, ⟨some 64, .load false 1, [.t 63], some (59, false), 0, 49⟩, ⟨some 65, .bin .neq, [.t 64, .c (ci 1)], some (59, false), 0, 50⟩, o 66 .pick [.t 59, .c ct, .t 65] 51, m 67 (.t 66) 52, ⟨some 68, .fld 3, [.t 1], some (67, false), 0, 53⟩, ⟨some 69, .load false 1, [.t 68], some (67, false), 0, 54⟩, ⟨some 70, .ix 8, [.t 69, .c (ci 0)], some (67, false), 0, 55⟩, ⟨some 71, .fld 1, [.t 70], some (67, false), 0, 56⟩, ⟨some 72, .load false 1, [.t 71], some (67, false), 0, 57⟩, ⟨some 73, .bin .neq, [.t 72, .c (ci 2)], some (67, false), 0, 58⟩, o 74 .pick [.t 67, .c ct, .t 73] 59]) (.jn 178405961588244985132304635647118370628698130 c153_2)) c153_s3)))
def c153 : Fn := { fid := 153, np := 1, ntmps := 146, body := (.jn 89202980794122492566142873090593446023921665 c153_1), res := [.tmp 2] }
def d153_1 (c : Cx) (t0 : V) (H : List Blk) : X := stepK c.pc c.ic c.n (.jn 89202980794122492566142873090593446023921665 c153_1) (cn 0 146 [(0, t0)]) H (kTop c153.res)
def k153_1 (c : Cx) : KT := thenK (stepK c.pc c.ic c.n c153_s3) (kTop c153.res)
def d153_2 (c : Cx) (t1 t4 t74 : V) (H : List Blk) : X := stepK c.pc c.ic c.n (.jn 178405961588244985132304635647118370628698130 c153_2) (cn 0 146 [(1, t1), (4, t4), (74, t74)]) H (k153_1 c)
def k153_2 (c : Cx) : KT := thenK (stepK c.pc c.ic c.n c153_s2) (kTop c153.res)
def k153_3 (c : Cx) : KT := blkK 0 (k153_2 c)
def d153_3 (c : Cx) (m n3 : Nat) (t1 t4 t5 : V) (H : List Blk) : X := jnK (loopsK (stepK c.pc c.ic c.n c153_3) 267608942382367477698428619271780338071765042 true n3 m) (cn 0 146 [(1, t1), (4, t4), (5, t5)]) H (k153_3 c) 267608942382367477698428619271780338071765042
def k153_4 (c : Cx) (m3 n3 : Nat) : KT := thenK (fun ts H k => jnK (loopsK (stepK c.pc c.ic c.n c153_3) 267608942382367477698428619271780338071765042 true n3 m3) (maskT 267608942382367477698428619271780338071765042 0 ts) H k 267608942382367477698428619271780338071765042) (k153_3 c)
def k153_5 (c : Cx) (m3 n3 : Nat) : KT := thenK (stepK c.pc c.ic c.n c153_s1) (k153_4 c m3 n3)
def k153_6 (c : Cx) (m3 n3 : Nat) : KT := blkK 1 (k153_5 c m3 n3)
def d153_4 (c : Cx) (m3 n3 : Nat) (t1 t4 t5 t6 t7 : V) (H : List Blk) : X := stepK c.pc c.ic c.n (.jn 356811923176489970264571492362373784095686898 c153_4) (cn 0 146 [(1, t1), (4, t4), (5, t5), (6, t6), (7, t7)]) H (k153_6 c m3 n3)
def b153_4 (c : Cx) (r3 : F3) (t1 t4 t5 t6 t7 : V) (H : List Blk) : X := p (aFld 3 t6) fun x1 => (aLoad false 1 x1).go H fun x2 H => p (aBin .neq t7 x2) fun x3 => (fun (t1 t4 t5 t6 t7 x3 : V) (H : L) (r3 : F3) => guardK x3 false (fun k => (aFld 1 t6).go H k) H fun x4 H => guardK x3 false (fun k => (aLoad false 1 x4).go H k) H fun x5 H => guardK x3 false (fun k => (aBin .eql x5 (ci 2)).go H k) H fun x6 H => guardK x3 false (fun k => (aMov x6).go H k) H fun x7 H => (fun (t1 t4 t5 t7 x3 x7 : V) (H : L) (r3 : F3) => guardK x7 true (fun k => (aMov t7).go H k) H fun x8 H => guardK x7 true (fun k => (aBin .neq x8 (ci 1)).go H k) H fun x9 H => guardK x3 false (fun k => (aPick x7 x9 cf).go H k) H fun x10 H => p (aPick x3 ct x10) fun x11 => condK x11 (some (cf, H)) (p (aBin .add t5 (ci 1)) fun x12 => r3 t1 t4 x12 H)) t1 t4 t5 t7 x3 x7 H r3) t1 t4 t5 t6 t7 x3 H r3
def j153_4 (c : Cx) (r3 : F3) : F5 := b153_4 c r3
theorem o153_4 (c : Cx) (m3 n3 : Nat) : d153_4 c m3 n3 = j153_4 c (d153_3 c m3 n3) := by
  unfold j153_4
  funext t1 t4 t5 t6 t7 H
  refine Eq.trans (stepK_jn c.pc c.ic c.n _ H _ 356811923176489970264571492362373784095686898 c153_4) ?_
  kernel_rfl
def b153_3 (c : Cx) (j4 : F5) (n3 : Nat) (t1 t4 t5 : V) (H : List Blk) : X := bnd (trimF true n3 [t1, t4, t5] H) fun H => p (aBin .lss t5 t4) fun x1 => condK x1 ((fun (t1 t4 t5 : V) (H : L) (c : Cx) (j4 : F5) => newK 1 H fun q H => p (aFld 3 t1) fun x2 => (aLoad false 1 x2).go H fun x3 H => (fun (t1 t4 t5 x3 : V) (q : Nat) (H : L) (c : Cx) (j4 : F5) => p (aIx 8 x3 t5) fun x4 => (aLoad true 8 x4).go H fun x5 H => (aAlloc (q + 0) z1).go H fun x6 H => (aStore 8 x6 x5).go H fun _ H => p (aFld 0 x6) fun x7 => (fun (t1 t4 t5 x6 x7 : V) (H : L) (c : Cx) (j4 : F5) => (aLoad false 1 x7).go H fun x8 H => p (aFld 2 t1) fun x9 => (aLoad false 1 x9).go H fun x10 H => p (aBin .geq x8 x10) fun x11 => (fun (t1 t4 t5 x6 x11 : V) (H : L) (c : Cx) (j4 : F5) => guardK x11 false (fun k => (aMov t5).go H k) H fun x12 H => guardK x11 false (fun k => (aBin .gtr x12 (ci 0)).go H k) H fun x13 H => guardK x11 false (fun k => (aMov x13).go H k) H fun x14 H => guardK x14 true (fun k => (aFld 0 x6).go H k) H fun x15 H => (fun (t1 t4 t5 x6 x11 x14 x15 : V) (H : L) (c : Cx) (j4 : F5) => guardK x14 true (fun k => (aLoad false 1 x15).go H k) H fun x16 H => guardK x14 true (fun k => (aFld 3 t1).go H k) H fun x17 H => guardK x14 true (fun k => (aLoad false 1 x17).go H k) H fun x18 H => guardK x14 true (fun k => (aMov t5).go H k) H fun x19 H => (fun (t1 t4 t5 x6 x11 x14 x16 x18 x19 : V) (H : L) (c : Cx) (j4 : F5) => guardK x14 true (fun k => (aBin .sub x19 (ci 1)).go H k) H fun x20 H => guardK x14 true (fun k => (aIx 8 x18 x20).go H k) H fun x21 H => guardK x14 true (fun k => (aFld 0 x21).go H k) H fun x22 H => guardK x14 true (fun k => (aLoad false 1 x22).go H k) H fun x23 H => (fun (t1 t4 t5 x6 x11 x14 x16 x23 : V) (H : L) (c : Cx) (j4 : F5) => guardK x14 true (fun k => (aBin .leq x16 x23).go H k) H fun x24 H => guardK x11 false (fun k => (aPick x14 x24 cf).go H k) H fun x25 H => p (aPick x11 ct x25) fun x26 => guardK x26 false (fun k => (aLoad true 4 t1).go H k) H fun x27 H => (fun (t1 t4 t5 x6 x26 x27 : V) (H : L) (c : Cx) (j4 : F5) => guardK x26 false (fun k => (aLoad true 8 x6).go H k) H fun x28 H => guardK x26 false (fun k => (aCall c.pc 242 [x27, x28]).go H k) H fun x29 H => guardK x26 false (fun k => (aUn .not x29).go H k) H fun x30 H => p (aPick x26 ct x30) fun x31 => condK x31 (some (cf, H)) ((fun (t1 t4 t5 x6 : V) (H : L) (c : Cx) (j4 : F5) => (aLoad true 4 t1).go H fun x32 H => p (aFld 0 x6) fun x33 => (aLoad false 1 x33).go H fun x34 H => p (aCall c.pc 243 [x32, x34]) fun x35 => p (aBin .eql t5 (ci 0)) fun x36 => condK x36 (p (aBin .add x35 (ci 1)) fun x37 => j4 t1 t4 t5 x6 x37 H) (j4 t1 t4 t5 x6 x35 H)) t1 t4 t5 x6 H c j4)) t1 t4 t5 x6 x26 x27 H c j4) t1 t4 t5 x6 x11 x14 x16 x23 H c j4) t1 t4 t5 x6 x11 x14 x16 x18 x19 H c j4) t1 t4 t5 x6 x11 x14 x15 H c j4) t1 t4 t5 x6 x11 H c j4) t1 t4 t5 x6 x7 H c j4) t1 t4 t5 x3 q H c j4) t1 t4 t5 H c j4) ((fun (t1 t4 : V) (H : L) (c : Cx) => (aLoad true 4 t1).go H fun x38 H => (fun (t4 x38 : V) (H : L) (c : Cx) => p (aBsl 1 [(.int .i64 0)] 1 [0] [(ci 1)]) fun x39 => p (aCall c.pc 244 [x38, (ci 1), (ci 16), x39]) fun x40 => p (aExt 0 x40) fun x41 => p (aExt 1 x40) fun x42 => guardK x42 true (fun k => (aMov x41).go H k) H fun x43 H => (fun (t4 x42 x43 : V) (H : L) => guardK x42 true (fun k => (aLen 1 x43).go H k) H fun x44 H => guardK x42 true (fun k => (aMov t4).go H k) H fun x45 H => guardK x42 true (fun k => (aBin .eql x44 x45).go H k) H fun x46 H => p (aPick x42 x46 cf) fun x47 => some (x47, H)) t4 x42 x43 H) t4 x38 H c) t1 t4 H c)
def j153_3 (c : Cx) : Nat → Nat → F3 := recN (fun _ _ _ _ _ => none) fun ih n3 => b153_3 c (j153_4 c (ih n3)) n3
theorem o153_3 (c : Cx) : d153_3 c = j153_3 c := by
  unfold j153_3
  refine recN_ok (by kernel_rfl) fun m => funext fun n3 => ?_
  simp only [← o153_4]
  funext t1 t4 t5 H
  refine Eq.trans (jnK_eq 267608942382367477698428619271780338071765042 _ _ H _) ?_
  kernel_rfl
def b153_2 (c : Cx) (j3 : Nat → Nat → F3) (t1 t4 t74 : V) (H : List Blk) : X := condK t74 (some (cf, H)) (j3 c.n H.length t1 t4 (ci 0) H)
def j153_2 (c : Cx) : F3 := b153_2 c (j153_3 c)
theorem o153_2 (c : Cx) : d153_2 c = j153_2 c := by
  unfold j153_2; rw [← o153_3]
  funext t1 t4 t74 H
  refine Eq.trans (stepK_jn c.pc c.ic c.n _ H _ 178405961588244985132304635647118370628698130 c153_2) ?_
  kernel_rfl
def b153_1 (c : Cx) (j2 : F3) (t0 : V) (H : List Blk) : X := newK 1 H fun q H => (aBox (q + 0) t0).go H fun x1 H => (aLoad true 4 x1).go H fun x2 H => p (aCall c.pc 236 [x2]) fun x3 => p (aExt 0 x3) fun x4 => p (aExt 1 x3) fun x5 => p (aFld 0 x1) fun x6 => (aLoad false 1 x6).go H fun x7 H => (fun (x1 x4 x5 x7 : V) (H : L) (j2 : F3) => p (aBin .lss x7 (ci 0)) fun x8 => guardK x8 false (fun k => (aFld 0 x1).go H k) H fun x9 H => guardK x8 false (fun k => (aLoad false 1 x9).go H k) H fun x10 H => guardK x8 false (fun k => (aBin .gtr x10 (ci 1048576)).go H k) H fun x11 H => (fun (x1 x4 x5 x8 x11 : V) (H : L) (j2 : F3) => p (aPick x8 ct x11) fun x12 => guardK x12 false (fun k => (aFld 1 x1).go H k) H fun x13 H => guardK x12 false (fun k => (aLoad false 1 x13).go H k) H fun x14 H => guardK x12 false (fun k => (aBin .lss x14 (ci 1)).go H k) H fun x15 H => (fun (x1 x4 x5 x12 x15 : V) (H : L) (j2 : F3) => p (aPick x12 ct x15) fun x16 => guardK x16 false (fun k => (aFld 1 x1).go H k) H fun x17 H => guardK x16 false (fun k => (aLoad false 1 x17).go H k) H fun x18 H => guardK x16 false (fun k => (aBin .gtr x18 (ci 4096)).go H k) H fun x19 H => (fun (x1 x4 x5 x16 x19 : V) (H : L) (j2 : F3) => p (aPick x16 ct x19) fun x20 => guardK x20 false (fun k => (aMov x4).go H k) H fun x21 H => guardK x20 false (fun k => (aFld 0 x1).go H k) H fun x22 H => guardK x20 false (fun k => (aLoad false 1 x22).go H k) H fun x23 H => (fun (x1 x5 x20 x21 x23 : V) (H : L) (j2 : F3) => guardK x20 false (fun k => (aBin .gtr x21 x23).go H k) H fun x24 H => p (aPick x20 ct x24) fun x25 => guardK x25 false (fun k => (aMov x5).go H k) H fun x26 H => guardK x25 false (fun k => (aFld 1 x1).go H k) H fun x27 H => (fun (x1 x5 x25 x26 x27 : V) (H : L) (j2 : F3) => guardK x25 false (fun k => (aLoad false 1 x27).go H k) H fun x28 H => guardK x25 false (fun k => (aBin .gtr x26 x28).go H k) H fun x29 H => p (aPick x25 ct x29) fun x30 => guardK x30 false (fun k => (aFld 2 x1).go H k) H fun x31 H => (fun (x1 x5 x30 x31 : V) (H : L) (j2 : F3) => guardK x30 false (fun k => (aLoad false 1 x31).go H k) H fun x32 H => guardK x30 false (fun k => (aBin .lss x32 (ci 1)).go H k) H fun x33 H => p (aPick x30 ct x33) fun x34 => guardK x34 false (fun k => (aFld 2 x1).go H k) H fun x35 H => (fun (x1 x5 x34 x35 : V) (H : L) (j2 : F3) => guardK x34 false (fun k => (aLoad false 1 x35).go H k) H fun x36 H => guardK x34 false (fun k => (aBin .geq x36 (ci 4611686018427387904)).go H k) H fun x37 H => p (aPick x34 ct x37) fun x38 => guardK x38 false (fun k => (aMov x5).go H k) H fun x39 H => (fun (x1 x5 x38 x39 : V) (H : L) (j2 : F3) => guardK x38 false (fun k => (aBin .eql x39 (ci 0)).go H k) H fun x40 H => p (aPick x38 ct x40) fun x41 => guardK x41 false (fun k => (aFld 3 x1).go H k) H fun x42 H => guardK x41 false (fun k => (aLoad false 1 x42).go H k) H fun x43 H => (fun (x1 x5 x41 x43 : V) (H : L) (j2 : F3) => guardK x41 false (fun k => (aIx 8 x43 (ci 0)).go H k) H fun x44 H => guardK x41 false (fun k => (aFld 0 x44).go H k) H fun x45 H => guardK x41 false (fun k => (aLoad false 1 x45).go H k) H fun x46 H => guardK x41 false (fun k => (aBin .neq x46 (ci 1)).go H k) H fun x47 H => (fun (x1 x5 x41 x47 : V) (H : L) (j2 : F3) => p (aPick x41 ct x47) fun x48 => guardK x48 false (fun k => (aFld 3 x1).go H k) H fun x49 H => guardK x48 false (fun k => (aLoad false 1 x49).go H k) H fun x50 H => guardK x48 false (fun k => (aIx 8 x50 (ci 0)).go H k) H fun x51 H => (fun (x1 x5 x48 x51 : V) (H : L) (j2 : F3) => guardK x48 false (fun k => (aFld 1 x51).go H k) H fun x52 H => guardK x48 false (fun k => (aLoad false 1 x52).go H k) H fun x53 H => guardK x48 false (fun k => (aBin .neq x53 (ci 2)).go H k) H fun x54 H => p (aPick x48 ct x54) fun x55 => j2 x1 x5 x55 H) x1 x5 x48 x51 H j2) x1 x5 x41 x47 H j2) x1 x5 x41 x43 H j2) x1 x5 x38 x39 H j2) x1 x5 x34 x35 H j2) x1 x5 x30 x31 H j2) x1 x5 x25 x26 x27 H j2) x1 x5 x20 x21 x23 H j2) x1 x4 x5 x16 x19 H j2) x1 x4 x5 x12 x15 H j2) x1 x4 x5 x8 x11 H j2) x1 x4 x5 x7 H j2
def j153_1 (c : Cx) : F1 := b153_1 c (j153_2 c)
theorem o153_1 (c : Cx) : d153_1 c = j153_1 c := by
  unfold j153_1; rw [← o153_2]
  funext t0 H
  refine Eq.trans (stepK_jn c.pc c.ic c.n _ H _ 89202980794122492566142873090593446023921665 c153_1) ?_
  kernel_rfl
def b153_0 (c : Cx) (j1 : F1) (t0 : V) (H : List Blk) : X := j1 t0 H
def s153 (c : Cx) (args : List V) (H : List Blk) : X := argsK 1 args (b153_0 c (j153_1 c) (getT args 0) H)
theorem e153 (pc ic n args H) : runK pc ic n c153 args H = s153 ⟨pc, ic, n⟩ args H := by
  unfold s153; rw [← o153_1]
  kernel_rfl
def L153 : Leaf := ⟨c153, fun pc ic n => s153 ⟨pc, ic, n⟩, e153⟩
theorem kk153 : chkFn Go.Proofs.Tryz.prog ET 153 c153 = true := by kernel_rfl

def c154_3 : C := (.seq (.seq (.reg 0 none [m 15 (.t 6) 0, o 16 (.fld 3) [.t 2] 1, o 17 (.load false 1) [.t 16] 2, m 18 (.t 5) 3, o 19 (.ix 8) [.t 17, .t 18] 4, o 20 (.fld 7) [.t 19] 5, o 21 (.load false 1) [.t 20] 6, o 22 (.len 1) [.t 21] 7, o 23 (.bin .lss) [.t 15, .t 22] 8]) (.cond (.t 23) .skip (.exit 2))) (.seq (.blk 3 (.seq (.reg 0 none [o 26 (.fld 3) [.t 2] 0, o 27 (.load false 1) [.t 26] 1, m 28 (.t 5) 2, o 29 (.ix 8) [.t 27, .t 28] 3, o 30 (.fld 7) [.t 29] 4, o 31 (.load false 1) [.t 30] 5, m 32 (.t 6) 6, o 33 (.ix 2) [.t 31, .t 32] 7, o 34 (.fld 0) [.t 33] 8, o 35 (.load false 1) [.t 34] 9, m 7 (.t 35) 10]) (.seq (.reg 0 none [m 36 (.t 1) 0, m 37 (.t 36) 1, ⟨some 38, .mov, [.t 7], some (37, true), 0, 2⟩, ⟨some 39, .call 183, [.t 38], some (37, true), 0, 3⟩, o 40 .pick [.t 37, .t 39, .c cf] 4, m 41 (.t 40) 5, ⟨some 42, .mov, [.t 7], some (41, false), 0, 6⟩, ⟨some 43, .call 183, [.t 42], some (41, false), 0, 7⟩, ⟨some 44, .un .not, [.t 43], some (41, false), 0, 8⟩, ⟨some 45, .mov, [.t 44], some (41, false), 0, 9⟩, ⟨some 46, .mov, [.t 7], some (45, true), 0, 10⟩, ⟨some 47, .len 0, [.t 46], some (45, true), 0, 11⟩, ⟨some 48, .bin .gtr, [.t 47, .c (ci 20)], some (45, true), 0, 12⟩, ⟨some 49, .pick, [.t 45, .t 48, .c cf], some (41, false), 0, 13⟩, o 50 .pick [.t 41, .c ct, .t 49] 14]) (.cond (.t 50) (.seq (.reg 0 none [m 4 (.c cf) 0]) .ret) .skip)))) (.reg 0 none [m 24 (.t 6) 0, o 25 (.bin .add) [.t 24, .c (ci 1)] 1, m 6 (.t 25) 2])))
def c154_s1 : C := (.reg 0 none [m 13 (.t 5) 0, o 14 (.bin .add) [.t 13, .c (ci 1)] 1, m 5 (.t 14) 2])
def c154_2 : C := (.seq (.seq (.reg 0 none [m 8 (.t 5) 0, o 9 (.fld 3) [.t 2] 1, o 10 (.load false 1) [.t 9] 2, o 11 (.len 1) [.t 10] 3, o 12 (.bin .lss) [.t 8, .t 11] 4]) (.cond (.t 12) .skip (.exit 0))) (.seq (.blk 1 (.seq (.reg 0 none [m 6 (.c (ci 0)) 0]) (.blk 2 (.loop 6755399441055846 false c154_3)))) c154_s1))
def c154_s2 : C := (.seq (.reg 0 none [m 4 (.c ct) 0]) .ret)
def c154_1 : C := (.seq (.reg 1 none [o 2 (.box 0) [.t 0] 0, m 4 (.c cf) 1]) (.seq (.seq (.reg 0 none [m 5 (.c (ci 0)) 0]) (.blk 0 (.loop 4503599627370534 false c154_2))) c154_s2))
def c154 : Fn := { fid := 154, np := 2, ntmps := 51, body := (.jn 2251799813685251 c154_1), res := [.tmp 4] }
def d154_1 (c : Cx) (t0 t1 : V) (H : List Blk) : X := stepK c.pc c.ic c.n (.jn 2251799813685251 c154_1) (cn 0 51 [(0, t0), (1, t1)]) H (kTop c154.res)
def k154_1 (c : Cx) : KT := thenK (stepK c.pc c.ic c.n c154_s2) (kTop c154.res)
def k154_2 (c : Cx) : KT := blkK 0 (k154_1 c)
def d154_2 (c : Cx) (m n2 : Nat) (t1 t2 t5 : V) (H : List Blk) : X := jnK (loopsK (stepK c.pc c.ic c.n c154_2) 4503599627370534 false n2 m) (cn 0 51 [(1, t1), (2, t2), (5, t5)]) H (k154_2 c) 4503599627370534
def k154_3 (c : Cx) (m2 n2 : Nat) : KT := thenK (fun ts H k => jnK (loopsK (stepK c.pc c.ic c.n c154_2) 4503599627370534 false n2 m2) (maskT 4503599627370534 0 ts) H k 4503599627370534) (k154_2 c)
def k154_4 (c : Cx) (m2 n2 : Nat) : KT := thenK (stepK c.pc c.ic c.n c154_s1) (k154_3 c m2 n2)
def k154_5 (c : Cx) (m2 n2 : Nat) : KT := blkK 1 (k154_4 c m2 n2)
def k154_6 (c : Cx) (m2 n2 : Nat) : KT := blkK 2 (k154_5 c m2 n2)
def d154_3 (c : Cx) (m2 n2 : Nat) (m n3 : Nat) (t1 t2 t5 t6 : V) (H : List Blk) : X := jnK (loopsK (stepK c.pc c.ic c.n c154_3) 6755399441055846 false n3 m) (cn 0 51 [(1, t1), (2, t2), (5, t5), (6, t6)]) H (k154_6 c m2 n2) 6755399441055846
def b154_3 (c : Cx) (r2 : F3) (r3 : F4) (n3 : Nat) (t1 t2 t5 t6 : V) (H : List Blk) : X := p (aFld 3 t2) fun x1 => (aLoad false 1 x1).go H fun x2 H => p (aIx 8 x2 t5) fun x3 => (fun (t1 t2 t5 t6 x3 : V) (H : L) (c : Cx) (r2 : F3) (r3 : F4) => p (aFld 7 x3) fun x4 => (aLoad false 1 x4).go H fun x5 H => (aLen 1 x5).go H fun x6 H => p (aBin .lss t6 x6) fun x7 => condK x7 ((fun (t1 t2 t5 t6 : V) (H : L) (c : Cx) (r3 : F4) => p (aFld 3 t2) fun x8 => (aLoad false 1 x8).go H fun x9 H => p (aIx 8 x9 t5) fun x10 => p (aFld 7 x10) fun x11 => (fun (t1 t2 t5 t6 x11 : V) (H : L) (c : Cx) (r3 : F4) => (aLoad false 1 x11).go H fun x12 H => p (aIx 2 x12 t6) fun x13 => p (aFld 0 x13) fun x14 => (aLoad false 1 x14).go H fun x15 H => guardK t1 true (fun k => (aMov x15).go H k) H fun x16 H => guardK t1 true (fun k => (aCall c.pc 183 [x16]).go H k) H fun x17 H => p (aPick t1 x17 cf) fun x18 => guardK x18 false (fun k => (aMov x15).go H k) H fun x19 H => (fun (t1 t2 t5 t6 x15 x18 x19 : V) (H : L) (c : Cx) (r3 : F4) => guardK x18 false (fun k => (aCall c.pc 183 [x19]).go H k) H fun x20 H => guardK x18 false (fun k => (aUn .not x20).go H k) H fun x21 H => guardK x18 false (fun k => (aMov x21).go H k) H fun x22 H => guardK x22 true (fun k => (aMov x15).go H k) H fun x23 H => (fun (t1 t2 t5 t6 x18 x22 x23 : V) (H : L) (r3 : F4) => guardK x22 true (fun k => (aLen 0 x23).go H k) H fun x24 H => guardK x22 true (fun k => (aBin .gtr x24 (ci 20)).go H k) H fun x25 H => guardK x18 false (fun k => (aPick x22 x25 cf).go H k) H fun x26 H => p (aPick x18 ct x26) fun x27 => condK x27 (some (cf, H)) (p (aBin .add t6 (ci 1)) fun x28 => r3 t1 t2 t5 x28 H)) t1 t2 t5 t6 x18 x22 x23 H r3) t1 t2 t5 t6 x15 x18 x19 H c r3) t1 t2 t5 t6 x11 H c r3) t1 t2 t5 t6 H c r3) (p (aBin .add t5 (ci 1)) fun x29 => r2 t1 t2 x29 H)) t1 t2 t5 t6 x3 H c r2 r3
def j154_3 (c : Cx) (r2 : F3) : Nat → Nat → F4 := recN (fun _ _ _ _ _ _ => none) fun ih n3 => b154_3 c r2 (ih n3) n3
theorem o154_3 (c : Cx) (m2 n2 : Nat) : d154_3 c m2 n2 = j154_3 c (d154_2 c m2 n2) := by
  unfold j154_3
  refine recN_ok (by kernel_rfl) fun m => funext fun n3 => ?_
  funext t1 t2 t5 t6 H
  refine Eq.trans (jnK_eq 6755399441055846 _ _ H _) ?_
  kernel_rfl
def b154_2 (c : Cx) (j3 : Nat → Nat → F4) (n2 : Nat) (t1 t2 t5 : V) (H : List Blk) : X := p (aFld 3 t2) fun x1 => (aLoad false 1 x1).go H fun x2 H => (aLen 1 x2).go H fun x3 H => p (aBin .lss t5 x3) fun x4 => condK x4 (j3 c.n H.length t1 t2 t5 (ci 0) H) (some (ct, H))
def j154_2 (c : Cx) : Nat → Nat → F3 := recN (fun _ _ _ _ _ => none) fun ih n2 => b154_2 c (j154_3 c (ih n2)) n2
theorem o154_2 (c : Cx) : d154_2 c = j154_2 c := by
  unfold j154_2
  refine recN_ok (by kernel_rfl) fun m => funext fun n2 => ?_
  simp only [← o154_3]
  funext t1 t2 t5 H
  refine Eq.trans (jnK_eq 4503599627370534 _ _ H _) ?_
  kernel_rfl
def b154_1 (c : Cx) (j2 : Nat → Nat → F3) (t0 t1 : V) (H : List Blk) : X := newK 1 H fun q H => (aBox (q + 0) t0).go H fun x1 H => j2 c.n H.length t1 x1 (ci 0) H
def j154_1 (c : Cx) : F2 := b154_1 c (j154_2 c)
theorem o154_1 (c : Cx) : d154_1 c = j154_1 c := by
  unfold j154_1; rw [← o154_2]
  funext t0 t1 H
  refine Eq.trans (stepK_jn c.pc c.ic c.n _ H _ 2251799813685251 c154_1) ?_
  kernel_rfl
def b154_0 (c : Cx) (j1 : F2) (t0 t1 : V) (H : List Blk) : X := j1 t0 t1 H
def s154 (c : Cx) (args : List V) (H : List Blk) : X := argsK 2 args (b154_0 c (j154_1 c) (getT args 0) (getT args 1) H)
theorem e154 (pc ic n args H) : runK pc ic n c154 args H = s154 ⟨pc, ic, n⟩ args H := by
  unfold s154; rw [← o154_1]
  kernel_rfl
def L154 : Leaf := ⟨c154, fun pc ic n => s154 ⟨pc, ic, n⟩, e154⟩
theorem kk154 : chkFn Go.Proofs.Tryz.prog ET 154 c154 = true := by kernel_rfl

def c157_1 : C := (.seq (.reg 2 none [o 1 (.box 0) [.t 0] 0, o 2 (.alloc 1 z10) [] 1]) (.seq (.seq (.reg 0 none [o 3 (.fld 2) [.t 1] 0, o 4 (.load false 1) [.t 3] 1, o 5 (.len 1) [.t 4] 2, o 6 (.bin .eql) [.t 5, .c (ci 0)] 3]) (.cond (.t 6) (.seq (.reg 0 none [o 7 (.build z10 [(0, 1)]) [.c (ci 1)] 0, ⟨none, .store 4, [.t 2, .t 7], none, 0, 1⟩]) .ret) .skip)) (.seq (.reg 0 (some ⟨true, [], 13⟩) [o 8 (.load true 7) [.t 1] 0, o 9 (.build z10 [(0, 1)]) [.c (ci 1)] 1, o 10 (.load true 7) [.t 1] 2, ⟨some 11, .call 45, [.t 10], none, 4, 3⟩, ⟨some 12, .call 246, [.t 8, .t 9, .t 11], none, 15, 4⟩, ⟨none, .store 4, [.t 2, .t 12], none, 31, 5⟩]) .ret)))
def c157 : Fn := { fid := 157, np := 1, ntmps := 13, body := (.jn 8193 c157_1), res := [.cell 2 true 4] }
def d157_1 (c : Cx) (t0 : V) (H : List Blk) : X := stepK c.pc c.ic c.n (.jn 8193 c157_1) (cn 0 13 [(0, t0)]) H (kTop c157.res)
def b157_1 (c : Cx) (t0 : V) (H : List Blk) : X := newK 2 H fun q H => (aBox (q + 0) t0).go H fun x1 H => (aAlloc (q + 1) z10).go H fun x2 H => p (aFld 2 x1) fun x3 => (aLoad false 1 x3).go H fun x4 H => (aLen 1 x4).go H fun x5 H => p (aBin .eql x5 (ci 0)) fun x6 => condK x6 (p (aBuild z10 [(0, 1)] [(ci 1)]) fun x7 => (aStore 4 x2 x7).go H fun _ H => bnd (loadV true 4 x2 H) fun x8 => some (x8, H)) ((fun (x1 x2 : V) (H : L) (c : Cx) => (aLoad true 7 x1).go H fun x9 H => p (aBuild z10 [(0, 1)] [(ci 1)]) fun x10 => (fun (x1 x2 x9 x10 : V) (H : L) (c : Cx) => (aLoad true 7 x1).go H fun x11 H => p (aCall c.pc 45 [x11]) fun x12 => p (aCall c.pc 246 [x9, x10, x12]) fun x13 => (aStore 4 x2 x13).go H fun _ H => bnd (loadV true 4 x2 H) fun x14 => some (x14, H)) x1 x2 x9 x10 H c) x1 x2 H c)
def j157_1 (c : Cx) : F1 := b157_1 c
theorem o157_1 (c : Cx) : d157_1 c = j157_1 c := by
  unfold j157_1
  funext t0 H
  refine Eq.trans (stepK_jn c.pc c.ic c.n _ H _ 8193 c157_1) ?_
  kernel_rfl
def b157_0 (c : Cx) (j1 : F1) (t0 : V) (H : List Blk) : X := j1 t0 H
def s157 (c : Cx) (args : List V) (H : List Blk) : X := argsK 1 args (b157_0 c (j157_1 c) (getT args 0) H)
theorem e157 (pc ic n args H) : runK pc ic n c157 args H = s157 ⟨pc, ic, n⟩ args H := by
  unfold s157; rw [← o157_1]
  kernel_rfl
def L157 : Leaf := ⟨c157, fun pc ic n => s157 ⟨pc, ic, n⟩, e157⟩
theorem kk157 : chkFn Go.Proofs.Tryz.prog ET 157 c157 = true := by kernel_rfl

def c158_2 : C := (.seq (.seq (.reg 0 none [m 5 (.t 3) 0, o 6 (.fld 1) [.t 1] 1, o 7 (.load false 1) [.t 6] 2, o 8 (.len 1) [.t 7] 3, o 9 (.bin .lss) [.t 5, .t 8] 4]) (.cond (.t 9) .skip (.exit 0))) (.seq (.blk 1 (.seq (.reg 0 (some ⟨true, [], 94⟩) [o 12 (.load true 4) [.t 1] 0, o 13 (.fld 1) [.t 1] 1, ⟨some 14, .load false 1, [.t 13], none, 2, 2⟩, m 15 (.t 3) 3, ⟨some 16, .ix 3, [.t 14, .t 15], none, 14, 4⟩, ⟨some 17, .load true 3, [.t 16], none, 30, 5⟩, ⟨some 18, .call 247, [.t 12, .t 17], none, 63, 6⟩, ⟨some 19, .un .not, [.t 18], none, 127, 7⟩, ⟨some 20, .mov, [.t 19], none, 255, 8⟩, ⟨some 21, .mov, [.t 3], some (20, false), 511, 9⟩, ⟨some 22, .bin .gtr, [.t 21, .c (ci 0)], some (20, false), 1023, 10⟩, ⟨some 23, .mov, [.t 22], some (20, false), 2047, 11⟩, ⟨some 24, .fld 1, [.t 1], some (23, true), 4095, 12⟩, ⟨some 25, .load false 1, [.t 24], some (23, true), 8191, 13⟩, ⟨some 26, .mov, [.t 3], some (23, true), 4095, 14⟩, ⟨some 27, .bin .sub, [.t 26, .c (ci 1)], some (23, true), 20479, 15⟩, ⟨some 28, .ix 3, [.t 25, .t 27], some (23, true), 65535, 16⟩, ⟨some 29, .fld 0, [.t 28], some (23, true), 131071, 17⟩, ⟨some 30, .load true 2, [.t 29], some (23, true), 262143, 18⟩, ⟨some 31, .fld 1, [.t 1], some (23, true), 4095, 19⟩, ⟨some 32, .load false 1, [.t 31], some (23, true), 528383, 20⟩, ⟨some 33, .mov, [.t 3], some (23, true), 4095, 21⟩, ⟨some 34, .ix 3, [.t 32, .t 33], some (23, true), 3674111, 22⟩, ⟨some 35, .fld 0, [.t 34], some (23, true), 7868415, 23⟩, ⟨some 36, .load true 2, [.t 35], some (23, true), 16257023, 24⟩, ⟨some 37, .call 248, [.t 30, .t 36], some (23, true), 33554431, 25⟩, ⟨some 38, .un .not, [.t 37], some (23, true), 67108863, 26⟩, ⟨some 39, .pick, [.t 23, .t 38, .c cf], some (20, false), 134217727, 27⟩, ⟨some 40, .pick, [.t 20, .c ct, .t 39], none, 268435455, 28⟩]) (.cond (.t 40) (.seq (.reg 0 none [m 2 (.c cf) 0]) .ret) .skip))) (.reg 0 none [m 10 (.t 3) 0, o 11 (.bin .add) [.t 10, .c (ci 1)] 1, m 3 (.t 11) 2])))
def c158_3 : C := (.seq (.seq (.reg 0 none [m 41 (.t 4) 0, o 42 (.fld 2) [.t 1] 1, o 43 (.load false 1) [.t 42] 2, o 44 (.len 1) [.t 43] 3, o 45 (.bin .lss) [.t 41, .t 44] 4]) (.cond (.t 45) .skip (.exit 2))) (.seq (.blk 3 (.seq (.reg 0 (some ⟨true, [], 94⟩) [o 48 (.load true 4) [.t 1] 0, o 49 (.fld 2) [.t 1] 1, ⟨some 50, .load false 1, [.t 49], none, 2, 2⟩, m 51 (.t 4) 3, ⟨some 52, .ix 3, [.t 50, .t 51], none, 14, 4⟩, ⟨some 53, .load true 3, [.t 52], none, 30, 5⟩, ⟨some 54, .call 247, [.t 48, .t 53], none, 63, 6⟩, ⟨some 55, .un .not, [.t 54], none, 127, 7⟩, ⟨some 56, .mov, [.t 55], none, 255, 8⟩, ⟨some 57, .mov, [.t 4], some (56, false), 511, 9⟩, ⟨some 58, .bin .gtr, [.t 57, .c (ci 0)], some (56, false), 1023, 10⟩, ⟨some 59, .mov, [.t 58], some (56, false), 2047, 11⟩, ⟨some 60, .fld 2, [.t 1], some (59, true), 4095, 12⟩, ⟨some 61, .load false 1, [.t 60], some (59, true), 8191, 13⟩, ⟨some 62, .mov, [.t 4], some (59, true), 4095, 14⟩, ⟨some 63, .bin .sub, [.t 62, .c (ci 1)], some (59, true), 20479, 15⟩, ⟨some 64, .ix 3, [.t 61, .t 63], some (59, true), 65535, 16⟩, ⟨some 65, .fld 2, [.t 64], some (59, true), 131071, 17⟩, ⟨some 66, .load false 1, [.t 65], some (59, true), 262143, 18⟩, ⟨some 67, .fld 2, [.t 1], some (59, true), 4095, 19⟩, ⟨some 68, .load false 1, [.t 67], some (59, true), 528383, 20⟩, ⟨some 69, .mov, [.t 4], some (59, true), 4095, 21⟩, ⟨some 70, .ix 3, [.t 68, .t 69], some (59, true), 3674111, 22⟩, ⟨some 71, .fld 2, [.t 70], some (59, true), 7868415, 23⟩, ⟨some 72, .load false 1, [.t 71], some (59, true), 16257023, 24⟩, ⟨some 73, .bin .geq, [.t 66, .t 72], some (59, true), 33554431, 25⟩, ⟨some 74, .pick, [.t 59, .t 73, .c cf], some (56, false), 67108863, 26⟩, ⟨some 75, .pick, [.t 56, .c ct, .t 74], none, 134217727, 27⟩]) (.cond (.t 75) (.seq (.reg 0 none [m 2 (.c cf) 0]) .ret) .skip))) (.reg 0 none [m 46 (.t 4) 0, o 47 (.bin .add) [.t 46, .c (ci 1)] 1, m 4 (.t 47) 2])))
def c158_s1 : C := (.seq (.reg 0 none [o 76 (.fld 0) [.t 1] 0, o 77 (.load false 1) [.t 76] 1, o 78 (.bin .geq) [.t 77, .c (ci 1)] 2, m 79 (.t 78) 3, ⟨some 80, .fld 0, [.t 1], some (79, true), 0, 4⟩, ⟨some 81, .load false 1, [.t 80], some (79, true), 0, 5⟩, ⟨some 82, .bin .leq, [.t 81, .c (ci 2147483647)], some (79, true), 0, 6⟩, o 83 .pick [.t 79, .t 82, .c cf] 7, m 84 (.t 83) 8, ⟨some 85, .fld 3, [.t 1], some (84, true), 0, 9⟩, ⟨some 86, .load false 1, [.t 85], some (84, true), 0, 10⟩, ⟨some 87, .bin .geq, [.t 86, .c (ci 0)], some (84, true), 0, 11⟩, o 88 .pick [.t 84, .t 87, .c cf] 12, m 89 (.t 88) 13, ⟨some 90, .fld 3, [.t 1], some (89, true), 0, 14⟩, ⟨some 91, .load false 1, [.t 90], some (89, true), 0, 15⟩, ⟨some 92, .bin .lss, [.t 91, .c (ci 8)], some (89, true), 0, 16⟩, o 93 .pick [.t 89, .t 92, .c cf] 17, m 2 (.t 93) 18]) .ret)
def c158_s2 : C := (.seq (.seq (.reg 0 none [m 4 (.c (ci 0)) 0]) (.blk 2 (.loop 59421121885698253195157962770 false c158_3))) c158_s1)
def c158_1 : C := (.seq (.reg 1 none [o 1 (.box 0) [.t 0] 0, m 2 (.c cf) 1]) (.seq (.seq (.reg 0 none [m 3 (.c (ci 0)) 0]) (.blk 0 (.loop 39614081257132168796771975178 false c158_2))) c158_s2))
def c158 : Fn := { fid := 158, np := 1, ntmps := 94, body := (.jn 19807040628566084398385987585 c158_1), res := [.tmp 2] }
def d158_1 (c : Cx) (t0 : V) (H : List Blk) : X := stepK c.pc c.ic c.n (.jn 19807040628566084398385987585 c158_1) (cn 0 94 [(0, t0)]) H (kTop c158.res)
def k158_1 (c : Cx) : KT := thenK (stepK c.pc c.ic c.n c158_s2) (kTop c158.res)
def k158_2 (c : Cx) : KT := blkK 0 (k158_1 c)
def d158_2 (c : Cx) (m n2 : Nat) (t1 t3 : V) (H : List Blk) : X := jnK (loopsK (stepK c.pc c.ic c.n c158_2) 39614081257132168796771975178 false n2 m) (cn 0 94 [(1, t1), (3, t3)]) H (k158_2 c) 39614081257132168796771975178
def k158_3 (c : Cx) : KT := thenK (stepK c.pc c.ic c.n c158_s1) (kTop c158.res)
def k158_4 (c : Cx) : KT := blkK 2 (k158_3 c)
def d158_3 (c : Cx) (m n3 : Nat) (t1 t4 : V) (H : List Blk) : X := jnK (loopsK (stepK c.pc c.ic c.n c158_3) 59421121885698253195157962770 false n3 m) (cn 0 94 [(1, t1), (4, t4)]) H (k158_4 c) 59421121885698253195157962770
def b158_3 (c : Cx) (r3 : F2) (n3 : Nat) (t1 t4 : V) (H : List Blk) : X := p (aFld 2 t1) fun x1 => (aLoad false 1 x1).go H fun x2 H => (aLen 1 x2).go H fun x3 H => p (aBin .lss t4 x3) fun x4 => condK x4 ((fun (t1 t4 : V) (H : L) (c : Cx) (r3 : F2) => (aLoad true 4 t1).go H fun x5 H => p (aFld 2 t1) fun x6 => (fun (t1 t4 x5 x6 : V) (H : L) (c : Cx) (r3 : F2) => (aLoad false 1 x6).go H fun x7 H => p (aIx 3 x7 t4) fun x8 => (aLoad true 3 x8).go H fun x9 H => p (aCall c.pc 247 [x5, x9]) fun x10 => (fun (t1 t4 x10 : V) (H : L) (r3 : F2) => p (aUn .not x10) fun x11 => guardK x11 false (fun k => (aMov t4).go H k) H fun x12 H => guardK x11 false (fun k => (aBin .gtr x12 (ci 0)).go H k) H fun x13 H => guardK x11 false (fun k => (aMov x13).go H k) H fun x14 H => (fun (t1 t4 x11 x14 : V) (H : L) (r3 : F2) => guardK x14 true (fun k => (aFld 2 t1).go H k) H fun x15 H => guardK x14 true (fun k => (aLoad false 1 x15).go H k) H fun x16 H => guardK x14 true (fun k => (aMov t4).go H k) H fun x17 H => guardK x14 true (fun k => (aBin .sub x17 (ci 1)).go H k) H fun x18 H => (fun (t1 t4 x11 x14 x16 x18 : V) (H : L) (r3 : F2) => guardK x14 true (fun k => (aIx 3 x16 x18).go H k) H fun x19 H => guardK x14 true (fun k => (aFld 2 x19).go H k) H fun x20 H => guardK x14 true (fun k => (aLoad false 1 x20).go H k) H fun x21 H => guardK x14 true (fun k => (aFld 2 t1).go H k) H fun x22 H => (fun (t1 t4 x11 x14 x21 x22 : V) (H : L) (r3 : F2) => guardK x14 true (fun k => (aLoad false 1 x22).go H k) H fun x23 H => guardK x14 true (fun k => (aMov t4).go H k) H fun x24 H => guardK x14 true (fun k => (aIx 3 x23 x24).go H k) H fun x25 H => guardK x14 true (fun k => (aFld 2 x25).go H k) H fun x26 H => (fun (t1 t4 x11 x14 x21 x26 : V) (H : L) (r3 : F2) => guardK x14 true (fun k => (aLoad false 1 x26).go H k) H fun x27 H => guardK x14 true (fun k => (aBin .geq x21 x27).go H k) H fun x28 H => guardK x11 false (fun k => (aPick x14 x28 cf).go H k) H fun x29 H => p (aPick x11 ct x29) fun x30 => condK x30 (some (cf, H)) (p (aBin .add t4 (ci 1)) fun x31 => r3 t1 x31 H)) t1 t4 x11 x14 x21 x26 H r3) t1 t4 x11 x14 x21 x22 H r3) t1 t4 x11 x14 x16 x18 H r3) t1 t4 x11 x14 H r3) t1 t4 x10 H r3) t1 t4 x5 x6 H c r3) t1 t4 H c r3) ((fun (t1 : V) (H : L) => p (aFld 0 t1) fun x32 => (aLoad false 1 x32).go H fun x33 H => p (aBin .geq x33 (ci 1)) fun x34 => (fun (t1 x34 : V) (H : L) => guardK x34 true (fun k => (aFld 0 t1).go H k) H fun x35 H => guardK x34 true (fun k => (aLoad false 1 x35).go H k) H fun x36 H => guardK x34 true (fun k => (aBin .leq x36 (ci 2147483647)).go H k) H fun x37 H => p (aPick x34 x37 cf) fun x38 => (fun (t1 x38 : V) (H : L) => guardK x38 true (fun k => (aFld 3 t1).go H k) H fun x39 H => guardK x38 true (fun k => (aLoad false 1 x39).go H k) H fun x40 H => guardK x38 true (fun k => (aBin .geq x40 (ci 0)).go H k) H fun x41 H => p (aPick x38 x41 cf) fun x42 => (fun (t1 x42 : V) (H : L) => guardK x42 true (fun k => (aFld 3 t1).go H k) H fun x43 H => guardK x42 true (fun k => (aLoad false 1 x43).go H k) H fun x44 H => guardK x42 true (fun k => (aBin .lss x44 (ci 8)).go H k) H fun x45 H => p (aPick x42 x45 cf) fun x46 => some (x46, H)) t1 x42 H) t1 x38 H) t1 x34 H) t1 H)
def j158_3 (c : Cx) : Nat → Nat → F2 := recN (fun _ _ _ _ => none) fun ih n3 => b158_3 c (ih n3) n3
theorem o158_3 (c : Cx) : d158_3 c = j158_3 c := by
  unfold j158_3
  refine recN_ok (by kernel_rfl) fun m => funext fun n3 => ?_
  funext t1 t4 H
  refine Eq.trans (jnK_eq 59421121885698253195157962770 _ _ H _) ?_
  kernel_rfl
def b158_2 (c : Cx) (r2 : F2) (j3 : Nat → Nat → F2) (n2 : Nat) (t1 t3 : V) (H : List Blk) : X := p (aFld 1 t1) fun x1 => (aLoad false 1 x1).go H fun x2 H => (aLen 1 x2).go H fun x3 H => p (aBin .lss t3 x3) fun x4 => condK x4 ((fun (t1 t3 : V) (H : L) (c : Cx) (r2 : F2) => (aLoad true 4 t1).go H fun x5 H => p (aFld 1 t1) fun x6 => (aLoad false 1 x6).go H fun x7 H => (fun (t1 t3 x5 x7 : V) (H : L) (c : Cx) (r2 : F2) => p (aIx 3 x7 t3) fun x8 => (aLoad true 3 x8).go H fun x9 H => p (aCall c.pc 247 [x5, x9]) fun x10 => p (aUn .not x10) fun x11 => (fun (t1 t3 x11 : V) (H : L) (c : Cx) (r2 : F2) => guardK x11 false (fun k => (aMov t3).go H k) H fun x12 H => guardK x11 false (fun k => (aBin .gtr x12 (ci 0)).go H k) H fun x13 H => guardK x11 false (fun k => (aMov x13).go H k) H fun x14 H => guardK x14 true (fun k => (aFld 1 t1).go H k) H fun x15 H => (fun (t1 t3 x11 x14 x15 : V) (H : L) (c : Cx) (r2 : F2) => guardK x14 true (fun k => (aLoad false 1 x15).go H k) H fun x16 H => guardK x14 true (fun k => (aMov t3).go H k) H fun x17 H => guardK x14 true (fun k => (aBin .sub x17 (ci 1)).go H k) H fun x18 H => guardK x14 true (fun k => (aIx 3 x16 x18).go H k) H fun x19 H => (fun (t1 t3 x11 x14 x19 : V) (H : L) (c : Cx) (r2 : F2) => guardK x14 true (fun k => (aFld 0 x19).go H k) H fun x20 H => guardK x14 true (fun k => (aLoad true 2 x20).go H k) H fun x21 H => guardK x14 true (fun k => (aFld 1 t1).go H k) H fun x22 H => guardK x14 true (fun k => (aLoad false 1 x22).go H k) H fun x23 H => (fun (t1 t3 x11 x14 x21 x23 : V) (H : L) (c : Cx) (r2 : F2) => guardK x14 true (fun k => (aMov t3).go H k) H fun x24 H => guardK x14 true (fun k => (aIx 3 x23 x24).go H k) H fun x25 H => guardK x14 true (fun k => (aFld 0 x25).go H k) H fun x26 H => guardK x14 true (fun k => (aLoad true 2 x26).go H k) H fun x27 H => (fun (t1 t3 x11 x14 x21 x27 : V) (H : L) (c : Cx) (r2 : F2) => guardK x14 true (fun k => (aCall c.pc 248 [x21, x27]).go H k) H fun x28 H => guardK x14 true (fun k => (aUn .not x28).go H k) H fun x29 H => guardK x11 false (fun k => (aPick x14 x29 cf).go H k) H fun x30 H => p (aPick x11 ct x30) fun x31 => condK x31 (some (cf, H)) (p (aBin .add t3 (ci 1)) fun x32 => r2 t1 x32 H)) t1 t3 x11 x14 x21 x27 H c r2) t1 t3 x11 x14 x21 x23 H c r2) t1 t3 x11 x14 x19 H c r2) t1 t3 x11 x14 x15 H c r2) t1 t3 x11 H c r2) t1 t3 x5 x7 H c r2) t1 t3 H c r2) (j3 c.n H.length t1 (ci 0) H)
def j158_2 (c : Cx) : Nat → Nat → F2 := recN (fun _ _ _ _ => none) fun ih n2 => b158_2 c (ih n2) (j158_3 c) n2
theorem o158_2 (c : Cx) : d158_2 c = j158_2 c := by
  unfold j158_2
  refine recN_ok (by kernel_rfl) fun m => funext fun n2 => ?_
  simp only [← o158_3]
  funext t1 t3 H
  refine Eq.trans (jnK_eq 39614081257132168796771975178 _ _ H _) ?_
  kernel_rfl
def b158_1 (c : Cx) (j2 : Nat → Nat → F2) (t0 : V) (H : List Blk) : X := newK 1 H fun q H => (aBox (q + 0) t0).go H fun x1 H => j2 c.n H.length x1 (ci 0) H
def j158_1 (c : Cx) : F1 := b158_1 c (j158_2 c)
theorem o158_1 (c : Cx) : d158_1 c = j158_1 c := by
  unfold j158_1; rw [← o158_2]
  funext t0 H
  refine Eq.trans (stepK_jn c.pc c.ic c.n _ H _ 19807040628566084398385987585 c158_1) ?_
  kernel_rfl
def b158_0 (c : Cx) (j1 : F1) (t0 : V) (H : List Blk) : X := j1 t0 H
def s158 (c : Cx) (args : List V) (H : List Blk) : X := argsK 1 args (b158_0 c (j158_1 c) (getT args 0) H)
theorem e158 (pc ic n args H) : runK pc ic n c158 args H = s158 ⟨pc, ic, n⟩ args H := by
  unfold s158; rw [← o158_1]
  kernel_rfl
def L158 : Leaf := ⟨c158, fun pc ic n => s158 ⟨pc, ic, n⟩, e158⟩
theorem kk158 : chkFn Go.Proofs.Tryz.prog ET 158 c158 = true := by kernel_rfl

def c162_3 : C := (.blk 2 (.seq (.reg 0 none [m 49 (.t 13) 0, o 50 (.un .not) [.t 49] 1, m 48 (.t 50) 2]) (.cond (.t 48) (.seq (.reg 0 (some ⟨true, [0, 4, 1, 2, 3, 5], 76⟩) [m 51 (.t 6) 0, o 52 (.fld 0) [.t 12] 1, ⟨some 53, .load false 1, [.t 52], none, 2, 2⟩, ⟨some 54, .bin .sub, [.t 53, .c (ci 1)], none, 6, 3⟩, ⟨some 6, .mov, [.t 51], none, 1, 4⟩, ⟨some 7, .mov, [.t 54], none, 31, 5⟩]) .ret) (.seq (.reg 0 none [o 56 (.load true 7) [.t 3] 0, o 57 (.load true 2) [.t 12] 1, o 58 (.call 251) [.t 56, .t 57, .c (.d (.str [46, 119, 104, 46, 46, 119, 104, 46, 46, 111, 112, 113]))] 2, m 55 (.t 58) 3]) (.cond (.t 55) (.seq (.reg 0 (some ⟨true, [0, 3, 1, 2, 4], 76⟩) [m 59 (.t 6) 0, o 60 (.fld 0) [.t 12] 1, ⟨some 61, .load false 1, [.t 60], none, 2, 2⟩, ⟨some 6, .mov, [.t 59], none, 1, 3⟩, ⟨some 7, .mov, [.t 61], none, 15, 4⟩]) .ret) .skip)))))
def c162_4 : C := (.seq (.reg 0 (some ⟨true, [], 76⟩) [o 62 (.load true 7) [.t 3] 0, o 63 (.load true 2) [.t 9] 1, m 64 (.t 2) 2, ⟨some 65, .call 100, [.t 64], none, 4, 3⟩, ⟨some 66, .call 251, [.t 62, .t 63, .t 65], none, 15, 4⟩]) (.cond (.t 66) (.seq (.reg 0 (some ⟨true, [0, 3, 1, 2, 4], 76⟩) [m 67 (.t 6) 0, o 68 (.fld 0) [.t 9] 1, ⟨some 69, .load false 1, [.t 68], none, 2, 2⟩, ⟨some 6, .mov, [.t 67], none, 1, 3⟩, ⟨some 7, .mov, [.t 69], none, 15, 4⟩]) .ret) .skip))
def c162_s1 : C := (.reg 0 none [o 70 (.bin .add) [.t 16, .c (ci 1)] 0, m 16 (.t 70) 1])
def c162_2 : C := (.seq (.reg 0 none [o 17 (.bin .lss) [.t 16, .t 15] 0]) (.seq (.cond (.t 17) .skip (.exit 0)) (.seq (.blk 1 (.seq (.reg 1 none [o 18 (.ix 2) [.t 14, .t 16] 0, o 19 (.load true 2) [.t 18] 1, o 9 (.alloc 0 [(ci 0), (ci 0)]) [] 2, ⟨none, .store 2, [.t 9, .t 19], none, 0, 3⟩]) (.seq (.seq (.reg 0 none [o 21 (.load true 7) [.t 3] 0, o 22 (.load true 2) [.t 9] 1, o 23 (.call 196) [.t 21, .t 22] 2, m 24 (.t 2) 3, o 25 (.call 90) [.t 23, .t 24] 4, m 20 (.t 25) 5, o 26 (.ext 0) [.t 20] 6, o 27 (.ext 1) [.t 20] 7, m 10 (.t 26) 8, m 11 (.t 27) 9]) (.seq (.reg 0 none [m 28 (.t 11) 0]) (.cond (.t 28) (.seq (.reg 1 none [o 29 (.fld 0) [.t 9] 0, o 30 (.load false 1) [.t 29] 1, m 31 (.t 10) 2, o 32 (.build [(ci 0), (ci 0)] [(0, 1), (1, 1)]) [.t 30, .t 31] 3, o 12 (.alloc 0 [(ci 0), (ci 0)]) [] 4, ⟨none, .store 2, [.t 12, .t 32], none, 0, 5⟩]) (.seq (.reg 0 none [o 33 (.load true 7) [.t 3] 0, o 34 (.load true 2) [.t 12] 1, o 35 (.call 196) [.t 33, .t 34] 2, o 36 (.fldv 1 1 false) [.t 35] 3, o 37 (.bin .eql) [.t 36, .c (ci 2)] 4, m 13 (.t 37) 5]) (.seq (.seq (.reg 0 none [m 38 (.t 13) 0, m 39 (.t 38) 1, ⟨some 40, .mov, [.t 6], some (39, false), 0, 2⟩, ⟨some 41, .len 1, [.t 40], some (39, false), 0, 3⟩, ⟨some 42, .bin .eql, [.t 41, .c (ci 0)], some (39, false), 0, 4⟩, o 43 .pick [.t 39, .c ct, .t 42] 5]) (.cond (.t 43) (.reg 1 none [m 44 (.t 6) 0, o 45 (.load true 2) [.t 12] 1, o 46 (.bsl 2 z13 1 [0]) [.t 45] 2, o 47 (.app 0 2 16) [.t 44, .t 46] 3, m 6 (.t 47) 4]) .skip)) (.jn 226673591177742970384972 c162_3)))) .skip))) (.jn 302231454903657293791820 c162_4)))) c162_s1)))
def c162_s2 : C := (.seq (.reg 0 (some ⟨true, [0, 1, 2, 3, 5, 4, 6], 76⟩) [m 71 (.t 6) 0, o 72 (.fld 2) [.t 3] 1, ⟨some 73, .load false 1, [.t 72], none, 2, 2⟩, ⟨some 74, .len 1, [.t 73], none, 6, 3⟩, ⟨some 75, .bin .sub, [.t 74, .c (ci 1)], none, 14, 4⟩, ⟨some 6, .mov, [.t 71], none, 1, 5⟩, ⟨some 7, .mov, [.t 75], none, 63, 6⟩]) .ret)
def c162_1 : C := (.seq (.reg 1 none [o 3 (.box 0) [.t 0] 0, m 6 (.c .nilS) 1, m 7 (.c (ci 0)) 2]) (.seq (.seq (.reg 0 none [m 14 (.t 1) 0, o 15 (.len 1) [.t 14] 1, m 16 (.c (ci 0)) 2]) (.blk 0 (.loop 151115727451828646953036 false c162_2))) c162_s2))
def c162 : Fn := { fid := 162, np := 3, ntmps := 76, body := (.jn 75557863725914323419143 c162_1), res := [.tmp 6, .tmp 7] }
def d162_1 (c : Cx) (t0 t1 t2 : V) (H : List Blk) : X := stepK c.pc c.ic c.n (.jn 75557863725914323419143 c162_1) (cn 0 76 [(0, t0), (1, t1), (2, t2)]) H (kTop c162.res)
def k162_1 (c : Cx) : KT := thenK (stepK c.pc c.ic c.n c162_s2) (kTop c162.res)
def k162_2 (c : Cx) : KT := blkK 0 (k162_1 c)
def d162_2 (c : Cx) (m n2 : Nat) (t2 t3 t6 t14 t15 t16 : V) (H : List Blk) : X := jnK (loopsK (stepK c.pc c.ic c.n c162_2) 151115727451828646953036 false n2 m) (cn 0 76 [(2, t2), (3, t3), (6, t6), (14, t14), (15, t15), (16, t16)]) H (k162_2 c) 151115727451828646953036
def k162_3 (c : Cx) (m2 n2 : Nat) : KT := thenK (fun ts H k => jnK (loopsK (stepK c.pc c.ic c.n c162_2) 151115727451828646953036 false n2 m2) (maskT 151115727451828646953036 0 ts) H k 151115727451828646953036) (k162_2 c)
def k162_4 (c : Cx) (m2 n2 : Nat) : KT := thenK (stepK c.pc c.ic c.n c162_s1) (k162_3 c m2 n2)
def k162_5 (c : Cx) (m2 n2 : Nat) : KT := blkK 1 (k162_4 c m2 n2)
def k162_6 (c : Cx) (m2 n2 : Nat) : KT := thenK (stepK c.pc c.ic c.n (.jn 302231454903657293791820 c162_4)) (k162_5 c m2 n2)
def d162_3 (c : Cx) (m2 n2 : Nat) (t2 t3 t6 t9 t12 t13 t14 t15 t16 : V) (H : List Blk) : X := stepK c.pc c.ic c.n (.jn 226673591177742970384972 c162_3) (cn 0 76 [(2, t2), (3, t3), (6, t6), (9, t9), (12, t12), (13, t13), (14, t14), (15, t15), (16, t16)]) H (k162_6 c m2 n2)
def d162_4 (c : Cx) (m2 n2 : Nat) (t2 t3 t6 t9 t14 t15 t16 : V) (H : List Blk) : X := stepK c.pc c.ic c.n (.jn 302231454903657293791820 c162_4) (cn 0 76 [(2, t2), (3, t3), (6, t6), (9, t9), (14, t14), (15, t15), (16, t16)]) H (k162_5 c m2 n2)
def b162_4 (c : Cx) (r2 : F6) (t2 t3 t6 t9 t14 t15 t16 : V) (H : List Blk) : X := (aLoad true 7 t3).go H fun x1 H => (aLoad true 2 t9).go H fun x2 H => p (aCall c.pc 100 [t2]) fun x3 => p (aCall c.pc 251 [x1, x2, x3]) fun x4 => condK x4 (p (aFld 0 t9) fun x5 => (aLoad false 1 x5).go H fun x6 H => some (.tup [t6, x6], H)) (p (aBin .add t16 (ci 1)) fun x7 => r2 t2 t3 t6 t14 t15 x7 H)
def j162_4 (c : Cx) (r2 : F6) : F7 := b162_4 c r2
theorem o162_4 (c : Cx) (m2 n2 : Nat) : d162_4 c m2 n2 = j162_4 c (d162_2 c m2 n2) := by
  unfold j162_4
  funext t2 t3 t6 t9 t14 t15 t16 H
  refine Eq.trans (stepK_jn c.pc c.ic c.n _ H _ 302231454903657293791820 c162_4) ?_
  kernel_rfl
def b162_3 (c : Cx) (j4 : F7) (t2 t3 t6 t9 t12 t13 t14 t15 t16 : V) (H : List Blk) : X := p (aUn .not t13) fun x1 => condK x1 (p (aFld 0 t12) fun x2 => (aLoad false 1 x2).go H fun x3 H => p (aBin .sub x3 (ci 1)) fun x4 => some (.tup [t6, x4], H)) ((fun (t2 t3 t6 t9 t12 t14 t15 t16 : V) (H : L) (c : Cx) (j4 : F7) => (aLoad true 7 t3).go H fun x5 H => (aLoad true 2 t12).go H fun x6 H => p (aCall c.pc 251 [x5, x6, (.d (.str [46, 119, 104, 46, 46, 119, 104, 46, 46, 111, 112, 113]))]) fun x7 => condK x7 (p (aFld 0 t12) fun x8 => (aLoad false 1 x8).go H fun x9 H => some (.tup [t6, x9], H)) (j4 t2 t3 t6 t9 t14 t15 t16 H)) t2 t3 t6 t9 t12 t14 t15 t16 H c j4)
def j162_3 (c : Cx) (r2 : F6) : F9 := b162_3 c (j162_4 c r2)
theorem o162_3 (c : Cx) (m2 n2 : Nat) : d162_3 c m2 n2 = j162_3 c (d162_2 c m2 n2) := by
  unfold j162_3; rw [← o162_4]
  funext t2 t3 t6 t9 t12 t13 t14 t15 t16 H
  refine Eq.trans (stepK_jn c.pc c.ic c.n _ H _ 226673591177742970384972 c162_3) ?_
  kernel_rfl
def b162_2 (c : Cx) (j3 : F9) (j4 : F7) (n2 : Nat) (t2 t3 t6 t14 t15 t16 : V) (H : List Blk) : X := p (aBin .lss t16 t15) fun x1 => condK x1 ((fun (t2 t3 t6 t14 t15 t16 : V) (H : L) (c : Cx) (j3 : F9) (j4 : F7) => newK 1 H fun q H => (fun (t2 t3 t6 t14 t15 t16 : V) (q : Nat) (H : L) (c : Cx) (j3 : F9) (j4 : F7) => p (aIx 2 t14 t16) fun x2 => (aLoad true 2 x2).go H fun x3 H => (aAlloc (q + 0) [(ci 0), (ci 0)]).go H fun x4 H => (aStore 2 x4 x3).go H fun _ H => (aLoad true 7 t3).go H fun x5 H => (aLoad true 2 x4).go H fun x6 H => (fun (t2 t3 t6 t14 t15 t16 x4 x5 x6 : V) (H : L) (c : Cx) (j3 : F9) (j4 : F7) => p (aCall c.pc 196 [x5, x6]) fun x7 => p (aCall c.pc 90 [x7, t2]) fun x8 => p (aExt 0 x8) fun x9 => p (aExt 1 x8) fun x10 => condK x10 ((fun (t2 t3 t6 t14 t15 t16 x4 x9 : V) (H : L) (c : Cx) (j3 : F9) => newK 1 H fun q H => p (aFld 0 x4) fun x11 => (fun (t2 t3 t6 t14 t15 t16 x4 x9 x11 : V) (q : Nat) (H : L) (c : Cx) (j3 : F9) => (aLoad false 1 x11).go H fun x12 H => p (aBuild [(ci 0), (ci 0)] [(0, 1), (1, 1)] [x12, x9]) fun x13 => (aAlloc (q + 0) [(ci 0), (ci 0)]).go H fun x14 H => (aStore 2 x14 x13).go H fun _ H => (aLoad true 7 t3).go H fun x15 H => (fun (t2 t3 t6 t14 t15 t16 x4 x14 x15 : V) (H : L) (c : Cx) (j3 : F9) => (aLoad true 2 x14).go H fun x16 H => p (aCall c.pc 196 [x15, x16]) fun x17 => p (aFldv 1 1 false x17) fun x18 => p (aBin .eql x18 (ci 2)) fun x19 => guardK x19 false (fun k => (aMov t6).go H k) H fun x20 H => guardK x19 false (fun k => (aLen 1 x20).go H k) H fun x21 H => guardK x19 false (fun k => (aBin .eql x21 (ci 0)).go H k) H fun x22 H => p (aPick x19 ct x22) fun x23 => condK x23 ((fun (t2 t3 t6 t14 t15 t16 x4 x14 x19 : V) (H : L) (j3 : F9) => newK 1 H fun q H => (aLoad true 2 x14).go H fun x24 H => p (aBsl 2 z13 1 [0] [x24]) fun x25 => (aApp (q + 0) 2 16 t6 x25).go H fun x26 H => j3 t2 t3 x26 x4 x14 x19 t14 t15 t16 H) t2 t3 t6 t14 t15 t16 x4 x14 x19 H j3) (j3 t2 t3 t6 x4 x14 x19 t14 t15 t16 H)) t2 t3 t6 t14 t15 t16 x4 x14 x15 H c j3) t2 t3 t6 t14 t15 t16 x4 x9 x11 q H c j3) t2 t3 t6 t14 t15 t16 x4 x9 H c j3) (j4 t2 t3 t6 x4 t14 t15 t16 H)) t2 t3 t6 t14 t15 t16 x4 x5 x6 H c j3 j4) t2 t3 t6 t14 t15 t16 q H c j3 j4) t2 t3 t6 t14 t15 t16 H c j3 j4) (p (aFld 2 t3) fun x27 => (aLoad false 1 x27).go H fun x28 H => (aLen 1 x28).go H fun x29 H => p (aBin .sub x29 (ci 1)) fun x30 => some (.tup [t6, x30], H))
def j162_2 (c : Cx) : Nat → Nat → F6 := recN (fun _ _ _ _ _ _ _ _ => none) fun ih n2 => b162_2 c (j162_3 c (ih n2)) (j162_4 c (ih n2)) n2
theorem o162_2 (c : Cx) : d162_2 c = j162_2 c := by
  unfold j162_2
  refine recN_ok (by kernel_rfl) fun m => funext fun n2 => ?_
  simp only [← o162_3, ← o162_4]
  funext t2 t3 t6 t14 t15 t16 H
  refine Eq.trans (jnK_eq 151115727451828646953036 _ _ H _) ?_
  kernel_rfl
def b162_1 (c : Cx) (j2 : Nat → Nat → F6) (t0 t1 t2 : V) (H : List Blk) : X := newK 1 H fun q H => (aBox (q + 0) t0).go H fun x1 H => (aLen 1 t1).go H fun x2 H => j2 c.n H.length t2 x1 .nilS t1 x2 (ci 0) H
def j162_1 (c : Cx) : F3 := b162_1 c (j162_2 c)
theorem o162_1 (c : Cx) : d162_1 c = j162_1 c := by
  unfold j162_1; rw [← o162_2]
  funext t0 t1 t2 H
  refine Eq.trans (stepK_jn c.pc c.ic c.n _ H _ 75557863725914323419143 c162_1) ?_
  kernel_rfl
def b162_0 (c : Cx) (j1 : F3) (t0 t1 t2 : V) (H : List Blk) : X := j1 t0 t1 t2 H
def s162 (c : Cx) (args : List V) (H : List Blk) : X := argsK 3 args (b162_0 c (j162_1 c) (getT args 0) (getT args 1) (getT args 2) H)
theorem e162 (pc ic n args H) : runK pc ic n c162 args H = s162 ⟨pc, ic, n⟩ args H := by
  unfold s162; rw [← o162_1]
  kernel_rfl
def L162 : Leaf := ⟨c162, fun pc ic n => s162 ⟨pc, ic, n⟩, e162⟩
theorem kk162 : chkFn Go.Proofs.Tryz.prog ET 162 c162 = true := by kernel_rfl

def c163_2 : C := (.seq (.reg 0 none [o 9 (.bin .lss) [.t 8, .t 7] 0]) (.seq (.cond (.t 9) .skip (.exit 0)) (.seq (.blk 1 (.seq (.reg 0 none [o 10 (.ix 1) [.t 6, .t 8] 0, o 11 (.load false 1) [.t 10] 1, m 5 (.t 11) 2]) (.seq (.reg 0 none [m 12 (.t 5) 0, m 13 (.t 3) 1, o 14 (.bin .neq) [.t 12, .t 13] 2]) (.cond (.t 14) (.seq (.reg 0 none [m 15 (.t 5) 0, m 2 (.t 15) 1]) .ret) .skip)))) (.reg 0 none [o 16 (.bin .add) [.t 8, .c (ci 1)] 0, m 8 (.t 16) 1]))))
def c163_s1 : C := (.seq (.reg 0 none [m 17 (.t 3) 0, m 2 (.t 17) 1]) .ret)
def c163_1 : C := (.seq (.reg 0 none [m 2 (.c (ci 0)) 0]) (.seq (.reg 0 none [m 3 (.c (ci 0)) 0]) (.seq (.seq (.reg 0 none [m 6 (.t 0) 0, o 7 (.len 1) [.t 6] 1, m 8 (.c (ci 0)) 2]) (.blk 0 (.loop 524744 false c163_2))) c163_s1)))
def c163 : Fn := { fid := 163, np := 1, ntmps := 18, body := (.jn 262145 c163_1), res := [.tmp 2] }
def d163_1 (c : Cx) (t0 : V) (H : List Blk) : X := stepK c.pc c.ic c.n (.jn 262145 c163_1) (cn 0 18 [(0, t0)]) H (kTop c163.res)
def k163_1 (c : Cx) : KT := thenK (stepK c.pc c.ic c.n c163_s1) (kTop c163.res)
def k163_2 (c : Cx) : KT := blkK 0 (k163_1 c)
def d163_2 (c : Cx) (m n2 : Nat) (t3 t6 t7 t8 : V) (H : List Blk) : X := jnK (loopsK (stepK c.pc c.ic c.n c163_2) 524744 false n2 m) (cn 0 18 [(3, t3), (6, t6), (7, t7), (8, t8)]) H (k163_2 c) 524744
def b163_2 (c : Cx) (r2 : F4) (n2 : Nat) (t3 t6 t7 t8 : V) (H : List Blk) : X := p (aBin .lss t8 t7) fun x1 => condK x1 ((fun (t3 t6 t7 t8 : V) (H : L) (r2 : F4) => p (aIx 1 t6 t8) fun x2 => (aLoad false 1 x2).go H fun x3 H => p (aBin .neq x3 t3) fun x4 => condK x4 (some (x3, H)) (p (aBin .add t8 (ci 1)) fun x5 => r2 t3 t6 t7 x5 H)) t3 t6 t7 t8 H r2) (some (t3, H))
def j163_2 (c : Cx) : Nat → Nat → F4 := recN (fun _ _ _ _ _ _ => none) fun ih n2 => b163_2 c (ih n2) n2
theorem o163_2 (c : Cx) : d163_2 c = j163_2 c := by
  unfold j163_2
  refine recN_ok (by kernel_rfl) fun m => funext fun n2 => ?_
  funext t3 t6 t7 t8 H
  refine Eq.trans (jnK_eq 524744 _ _ H _) ?_
  kernel_rfl
def b163_1 (c : Cx) (j2 : Nat → Nat → F4) (t0 : V) (H : List Blk) : X := (aLen 1 t0).go H fun x1 H => j2 c.n H.length (ci 0) t0 x1 (ci 0) H
def j163_1 (c : Cx) : F1 := b163_1 c (j163_2 c)
theorem o163_1 (c : Cx) : d163_1 c = j163_1 c := by
  unfold j163_1; rw [← o163_2]
  funext t0 H
  refine Eq.trans (stepK_jn c.pc c.ic c.n _ H _ 262145 c163_1) ?_
  kernel_rfl
def b163_0 (c : Cx) (j1 : F1) (t0 : V) (H : List Blk) : X := j1 t0 H
def s163 (c : Cx) (args : List V) (H : List Blk) : X := argsK 1 args (b163_0 c (j163_1 c) (getT args 0) H)
theorem e163 (pc ic n args H) : runK pc ic n c163 args H = s163 ⟨pc, ic, n⟩ args H := by
  unfold s163; rw [← o163_1]
  kernel_rfl
def L163 : Leaf := ⟨c163, fun pc ic n => s163 ⟨pc, ic, n⟩, e163⟩
theorem kk163 : chkFn Go.Proofs.Tryz.prog ET 163 c163 = true := by kernel_rfl

def c164_1 : C := (.seq (.reg 0 none [m 4 (.c (ci 0)) 0]) (.seq (.reg 0 none [m 7 (.t 0) 0, o 8 (.call 252) [.t 7] 1, m 5 (.t 8) 2]) (.seq (.reg 0 none [m 9 (.t 1) 0, o 10 (.call 252) [.t 9] 1, m 6 (.t 10) 2]) (.seq (.seq (.reg 0 none [m 11 (.t 5) 0]) (.cond (.t 11) (.seq (.seq (.reg 0 none [m 12 (.t 6) 0]) (.cond (.t 12) (.seq (.reg 0 none [m 4 (.c (ci 0)) 0]) .ret) .skip)) (.seq (.reg 0 none [m 4 (.c (ci (-1))) 0]) .ret)) .skip)) (.seq (.seq (.reg 0 none [m 13 (.t 6) 0]) (.cond (.t 13) (.seq (.reg 0 none [m 4 (.c (ci 1)) 0]) .ret) .skip)) (.seq (.seq (.reg 0 none [m 14 (.t 0) 0, m 15 (.t 1) 1, o 16 (.bin .lss) [.t 14, .t 15] 2]) (.cond (.t 16) (.seq (.reg 0 none [m 4 (.c (ci (-1))) 0]) .ret) .skip)) (.seq (.seq (.reg 0 none [m 17 (.t 0) 0, m 18 (.t 1) 1, o 19 (.bin .gtr) [.t 17, .t 18] 2]) (.cond (.t 19) (.seq (.reg 0 none [m 4 (.c (ci 1)) 0]) .ret) .skip)) (.seq (.reg 0 none [m 4 (.c (ci 0)) 0]) .ret))))))))
def c164 : Fn := { fid := 164, np := 2, ntmps := 20, body := (.jn 1048579 c164_1), res := [.tmp 4] }
def d164_1 (c : Cx) (t0 t1 : V) (H : List Blk) : X := stepK c.pc c.ic c.n (.jn 1048579 c164_1) (cn 0 20 [(0, t0), (1, t1)]) H (kTop c164.res)
def b164_1 (c : Cx) (t0 t1 : V) (H : List Blk) : X := p (aCall c.pc 252 [t0]) fun x1 => p (aCall c.pc 252 [t1]) fun x2 => condK x1 (condK x2 (some ((ci 0), H)) (some ((ci (-1)), H))) ((fun (t0 t1 x2 : V) (H : L) => condK x2 (some ((ci 1), H)) (p (aBin .lss t0 t1) fun x3 => condK x3 (some ((ci (-1)), H)) (p (aBin .gtr t0 t1) fun x4 => condK x4 (some ((ci 1), H)) (some ((ci 0), H))))) t0 t1 x2 H)
def j164_1 (c : Cx) : F2 := b164_1 c
theorem o164_1 (c : Cx) : d164_1 c = j164_1 c := by
  unfold j164_1
  funext t0 t1 H
  refine Eq.trans (stepK_jn c.pc c.ic c.n _ H _ 1048579 c164_1) ?_
  kernel_rfl
def b164_0 (c : Cx) (j1 : F2) (t0 t1 : V) (H : List Blk) : X := j1 t0 t1 H
def s164 (c : Cx) (args : List V) (H : List Blk) : X := argsK 2 args (b164_0 c (j164_1 c) (getT args 0) (getT args 1) H)
theorem e164 (pc ic n args H) : runK pc ic n c164 args H = s164 ⟨pc, ic, n⟩ args H := by
  unfold s164; rw [← o164_1]
  kernel_rfl
def L164 : Leaf := ⟨c164, fun pc ic n => s164 ⟨pc, ic, n⟩, e164⟩
theorem kk164 : chkFn Go.Proofs.Tryz.prog ET 164 c164 = true := by kernel_rfl

def c165_1 : C := (.seq (.reg 0 none [m 4 (.c (ci 0)) 0]) (.seq (.reg 0 none [m 7 (.t 0) 0, o 8 (.call 253) [.t 7] 1, m 5 (.t 8) 2]) (.seq (.reg 0 none [m 9 (.t 1) 0, o 10 (.call 253) [.t 9] 1, m 6 (.t 10) 2]) (.seq (.seq (.reg 0 none [m 11 (.t 5) 0]) (.cond (.t 11) (.seq (.seq (.reg 0 none [m 12 (.t 6) 0]) (.cond (.t 12) (.seq (.reg 0 none [m 4 (.c (ci 0)) 0]) .ret) .skip)) (.seq (.reg 0 none [m 4 (.c (ci (-1))) 0]) .ret)) .skip)) (.seq (.seq (.reg 0 none [m 13 (.t 6) 0]) (.cond (.t 13) (.seq (.reg 0 none [m 4 (.c (ci 1)) 0]) .ret) .skip)) (.seq (.seq (.reg 0 none [m 14 (.t 0) 0, m 15 (.t 1) 1, o 16 (.bin .lss) [.t 14, .t 15] 2]) (.cond (.t 16) (.seq (.reg 0 none [m 4 (.c (ci (-1))) 0]) .ret) .skip)) (.seq (.seq (.reg 0 none [m 17 (.t 0) 0, m 18 (.t 1) 1, o 19 (.bin .gtr) [.t 17, .t 18] 2]) (.cond (.t 19) (.seq (.reg 0 none [m 4 (.c (ci 1)) 0]) .ret) .skip)) (.seq (.reg 0 none [m 4 (.c (ci 0)) 0]) .ret))))))))
def c165 : Fn := { fid := 165, np := 2, ntmps := 20, body := (.jn 1048579 c165_1), res := [.tmp 4] }
def d165_1 (c : Cx) (t0 t1 : V) (H : List Blk) : X := stepK c.pc c.ic c.n (.jn 1048579 c165_1) (cn 0 20 [(0, t0), (1, t1)]) H (kTop c165.res)
def b165_1 (c : Cx) (t0 t1 : V) (H : List Blk) : X := p (aCall c.pc 253 [t0]) fun x1 => p (aCall c.pc 253 [t1]) fun x2 => condK x1 (condK x2 (some ((ci 0), H)) (some ((ci (-1)), H))) ((fun (t0 t1 x2 : V) (H : L) => condK x2 (some ((ci 1), H)) (p (aBin .lss t0 t1) fun x3 => condK x3 (some ((ci (-1)), H)) (p (aBin .gtr t0 t1) fun x4 => condK x4 (some ((ci 1), H)) (some ((ci 0), H))))) t0 t1 x2 H)
def j165_1 (c : Cx) : F2 := b165_1 c
theorem o165_1 (c : Cx) : d165_1 c = j165_1 c := by
  unfold j165_1
  funext t0 t1 H
  refine Eq.trans (stepK_jn c.pc c.ic c.n _ H _ 1048579 c165_1) ?_
  kernel_rfl
def b165_0 (c : Cx) (j1 : F2) (t0 t1 : V) (H : List Blk) : X := j1 t0 t1 H
def s165 (c : Cx) (args : List V) (H : List Blk) : X := argsK 2 args (b165_0 c (j165_1 c) (getT args 0) (getT args 1) H)
theorem e165 (pc ic n args H) : runK pc ic n c165 args H = s165 ⟨pc, ic, n⟩ args H := by
  unfold s165; rw [← o165_1]
  kernel_rfl
def L165 : Leaf := ⟨c165, fun pc ic n => s165 ⟨pc, ic, n⟩, e165⟩
theorem kk165 : chkFn Go.Proofs.Tryz.prog ET 165 c165 = true := by kernel_rfl

def c166 : Fn := { fid := 166, np := 2, ntmps := 12, body := (.seq (.reg 1 none [o 2 (.box 0) [.t 0] 0, m 4 (.c (ci 0)) 1, m 5 (.c cf) 2]) (.seq (.reg 0 none [o 6 (.fld 3) [.t 2] 0, o 7 (.load false 1) [.t 6] 1, m 8 (.t 1) 2, o 9 (.icall 254) [.t 7, .t 8, .c (.fn 255 [])] 3, o 10 (.ext 0) [.t 9] 4, o 11 (.ext 1) [.t 9] 5, m 4 (.t 10) 6, m 5 (.t 11) 7]) .ret)), res := [.tmp 4, .tmp 5] }
def b166_0 (c : Cx) (t0 t1 : V) (H : List Blk) : X := newK 1 H fun q H => (aBox (q + 0) t0).go H fun x1 H => p (aFld 3 x1) fun x2 => (aLoad false 1 x2).go H fun x3 H => icK c 254 [x3, t1, (.fn 255 [])] H fun x4 H => p (aExt 0 x4) fun x5 => p (aExt 1 x4) fun x6 => some (.tup [x5, x6], H)
def s166 (c : Cx) (args : List V) (H : List Blk) : X := argsK 2 args (b166_0 c (getT args 0) (getT args 1) H)
theorem e166 (pc ic n args H) : runK pc ic n c166 args H = s166 ⟨pc, ic, n⟩ args H := by
  unfold s166
  kernel_rfl
def L166 : Leaf := ⟨c166, fun pc ic n => s166 ⟨pc, ic, n⟩, e166⟩
theorem kk166 : chkFn Go.Proofs.Tryz.prog ET 166 c166 = true := by kernel_rfl

def c167_1 : C := (.seq (.reg 2 none [o 1 (.box 0) [.t 0] 0, o 2 (.alloc 1 z1) [] 1]) (.seq (.reg 0 none [o 3 (.fld 4) [.t 1] 0, o 4 (.load true 2) [.t 3] 1, o 5 (.call 256) [.t 4] 2, o 6 (.fld 4) [.t 1] 3, ⟨none, .store 2, [.t 6, .t 5], none, 0, 4⟩]) (.seq (.reg 1 none [o 7 (.fld 7) [.t 1] 0, o 8 (.load false 1) [.t 7] 1, o 9 (.cloneA 0 2 24) [.t 8] 2, o 10 (.fld 7) [.t 1] 3, ⟨none, .store 1, [.t 10, .t 9], none, 0, 4⟩]) (.seq (.reg 0 none [o 11 (.load true 8) [.t 1] 0, ⟨none, .store 8, [.t 2, .t 11], none, 0, 1⟩]) .ret))))
def c167 : Fn := { fid := 167, np := 1, ntmps := 12, body := (.jn 4097 c167_1), res := [.cell 2 true 8] }
def d167_1 (c : Cx) (t0 : V) (H : List Blk) : X := stepK c.pc c.ic c.n (.jn 4097 c167_1) (cn 0 12 [(0, t0)]) H (kTop c167.res)
def b167_1 (c : Cx) (t0 : V) (H : List Blk) : X := newK 2 H fun q H => (aBox (q + 0) t0).go H fun x1 H => (aAlloc (q + 1) z1).go H fun x2 H => p (aFld 4 x1) fun x3 => (fun (x1 x2 x3 : V) (H : L) (c : Cx) => (aLoad true 2 x3).go H fun x4 H => p (aCall c.pc 256 [x4]) fun x5 => p (aFld 4 x1) fun x6 => (aStore 2 x6 x5).go H fun _ H => newK 1 H fun q H => p (aFld 7 x1) fun x7 => (fun (x1 x2 x7 : V) (q : Nat) (H : L) => (aLoad false 1 x7).go H fun x8 H => (aCloneA (q + 0) 2 24 x8).go H fun x9 H => p (aFld 7 x1) fun x10 => (aStore 1 x10 x9).go H fun _ H => (aLoad true 8 x1).go H fun x11 H => (aStore 8 x2 x11).go H fun _ H => bnd (loadV true 8 x2 H) fun x12 => some (x12, H)) x1 x2 x7 q H) x1 x2 x3 H c
def j167_1 (c : Cx) : F1 := b167_1 c
theorem o167_1 (c : Cx) : d167_1 c = j167_1 c := by
  unfold j167_1
  funext t0 H
  refine Eq.trans (stepK_jn c.pc c.ic c.n _ H _ 4097 c167_1) ?_
  kernel_rfl
def b167_0 (c : Cx) (j1 : F1) (t0 : V) (H : List Blk) : X := j1 t0 H
def s167 (c : Cx) (args : List V) (H : List Blk) : X := argsK 1 args (b167_0 c (j167_1 c) (getT args 0) H)
theorem e167 (pc ic n args H) : runK pc ic n c167 args H = s167 ⟨pc, ic, n⟩ args H := by
  unfold s167; rw [← o167_1]
  kernel_rfl
def L167 : Leaf := ⟨c167, fun pc ic n => s167 ⟨pc, ic, n⟩, e167⟩
theorem kk167 : chkFn Go.Proofs.Tryz.prog ET 167 c167 = true := by kernel_rfl

def c168 : Fn := { fid := 168, np := 2, ntmps := 14, body := (.seq (.reg 2 none [o 2 (.box 0) [.t 0] 0, o 4 (.alloc 1 z1) [] 1]) (.seq (.reg 1 none [o 8 (.load true 4) [.t 2] 0, m 9 (.t 1) 1, o 10 (.call 85) [.t 8, .t 9] 2, m 7 (.t 10) 3, o 11 (.ext 0) [.t 7] 4, o 12 (.ext 1) [.t 7] 5, o 5 (.alloc 0 z1) [] 6, ⟨none, .store 8, [.t 5, .t 11], none, 0, 7⟩, m 6 (.t 12) 8]) (.seq (.reg 0 none [o 13 (.load true 8) [.t 5] 0, ⟨none, .store 8, [.t 4, .t 13], none, 0, 1⟩]) .ret))), res := [.cell 4 true 8] }
def b168_0 (c : Cx) (t0 t1 : V) (H : List Blk) : X := newK 2 H fun q H => (aBox (q + 0) t0).go H fun x1 H => (aAlloc (q + 1) z1).go H fun x2 H => newK 1 H fun q H => (aLoad true 4 x1).go H fun x3 H => p (aCall c.pc 85 [x3, t1]) fun x4 => (fun (x2 x4 : V) (q : Nat) (H : L) => p (aExt 0 x4) fun x5 => p (aExt 1 x4) fun x6 => (aAlloc (q + 0) z1).go H fun x7 H => (aStore 8 x7 x5).go H fun _ H => (aLoad true 8 x7).go H fun x8 H => (aStore 8 x2 x8).go H fun _ H => bnd (loadV true 8 x2 H) fun x9 => some (x9, H)) x2 x4 q H
def s168 (c : Cx) (args : List V) (H : List Blk) : X := argsK 2 args (b168_0 c (getT args 0) (getT args 1) H)
theorem e168 (pc ic n args H) : runK pc ic n c168 args H = s168 ⟨pc, ic, n⟩ args H := by
  unfold s168
  kernel_rfl
def L168 : Leaf := ⟨c168, fun pc ic n => s168 ⟨pc, ic, n⟩, e168⟩
theorem kk168 : chkFn Go.Proofs.Tryz.prog ET 168 c168 = true := by kernel_rfl

def c169_2 : C := (.seq (.reg 0 none [o 10 (.bin .lss) [.t 9, .t 8] 0]) (.seq (.cond (.t 10) .skip (.exit 0)) (.seq (.blk 1 (.seq (.reg 1 none [o 11 (.ix 8) [.t 7, .t 9] 0, o 12 (.load true 8) [.t 11] 1, o 5 (.alloc 0 z1) [] 2, ⟨none, .store 8, [.t 5, .t 12], none, 0, 3⟩]) (.reg 0 none [m 13 (.t 2) 0, o 14 (.fld 4) [.t 5] 1, o 15 (.fld 1) [.t 14] 2, o 16 (.load false 1) [.t 15] 3, o 17 (.len 1) [.t 16] 4, o 18 (.bin .add) [.t 13, .t 17] 5, m 2 (.t 18) 6]))) (.reg 0 none [o 19 (.bin .add) [.t 9, .c (ci 1)] 0, m 9 (.t 19) 1]))))
def c169_s1 : C := (.seq (.reg 0 (some ⟨true, [0, 1, 2, 3, 4, 5], 24⟩) [m 20 (.t 2) 0, o 21 (.fld 3) [.t 1] 1, ⟨some 22, .load false 1, [.t 21], none, 2, 2⟩, ⟨some 23, .len 1, [.t 22], none, 6, 3⟩, ⟨some 2, .mov, [.t 20], none, 1, 4⟩, ⟨some 3, .mov, [.t 23], none, 31, 5⟩]) .ret)
def c169_1 : C := (.seq (.reg 1 none [o 1 (.box 0) [.t 0] 0, m 2 (.c (ci 0)) 1, m 3 (.c (ci 0)) 2]) (.seq (.seq (.reg 0 none [o 6 (.fld 3) [.t 1] 0, o 7 (.load false 1) [.t 6] 1, o 8 (.len 1) [.t 7] 2, m 9 (.c (ci 0)) 3]) (.blk 0 (.loop 33555334 true c169_2))) c169_s1))
def c169 : Fn := { fid := 169, np := 1, ntmps := 24, body := (.jn 16777217 c169_1), res := [.tmp 2, .tmp 3] }
def d169_1 (c : Cx) (t0 : V) (H : List Blk) : X := stepK c.pc c.ic c.n (.jn 16777217 c169_1) (cn 0 24 [(0, t0)]) H (kTop c169.res)
def k169_1 (c : Cx) : KT := thenK (stepK c.pc c.ic c.n c169_s1) (kTop c169.res)
def k169_2 (c : Cx) : KT := blkK 0 (k169_1 c)
def d169_2 (c : Cx) (m n2 : Nat) (t1 t2 t7 t8 t9 : V) (H : List Blk) : X := jnK (loopsK (stepK c.pc c.ic c.n c169_2) 33555334 true n2 m) (cn 0 24 [(1, t1), (2, t2), (7, t7), (8, t8), (9, t9)]) H (k169_2 c) 33555334
def b169_2 (c : Cx) (r2 : F5) (n2 : Nat) (t1 t2 t7 t8 t9 : V) (H : List Blk) : X := bnd (trimF true n2 [t1, t2, t7, t8, t9] H) fun H => p (aBin .lss t9 t8) fun x1 => condK x1 ((fun (t1 t2 t7 t8 t9 : V) (H : L) (r2 : F5) => newK 1 H fun q H => (fun (t1 t2 t7 t8 t9 : V) (q : Nat) (H : L) (r2 : F5) => p (aIx 8 t7 t9) fun x2 => (aLoad true 8 x2).go H fun x3 H => (aAlloc (q + 0) z1).go H fun x4 H => (aStore 8 x4 x3).go H fun _ H => p (aFld 4 x4) fun x5 => (fun (t1 t2 t7 t8 t9 x5 : V) (H : L) (r2 : F5) => p (aFld 1 x5) fun x6 => (aLoad false 1 x6).go H fun x7 H => (aLen 1 x7).go H fun x8 H => p (aBin .add t2 x8) fun x9 => p (aBin .add t9 (ci 1)) fun x10 => r2 t1 x9 t7 t8 x10 H) t1 t2 t7 t8 t9 x5 H r2) t1 t2 t7 t8 t9 q H r2) t1 t2 t7 t8 t9 H r2) (p (aFld 3 t1) fun x11 => (aLoad false 1 x11).go H fun x12 H => (aLen 1 x12).go H fun x13 H => some (.tup [t2, x13], H))
def j169_2 (c : Cx) : Nat → Nat → F5 := recN (fun _ _ _ _ _ _ _ => none) fun ih n2 => b169_2 c (ih n2) n2
theorem o169_2 (c : Cx) : d169_2 c = j169_2 c := by
  unfold j169_2
  refine recN_ok (by kernel_rfl) fun m => funext fun n2 => ?_
  funext t1 t2 t7 t8 t9 H
  refine Eq.trans (jnK_eq 33555334 _ _ H _) ?_
  kernel_rfl
def b169_1 (c : Cx) (j2 : Nat → Nat → F5) (t0 : V) (H : List Blk) : X := newK 1 H fun q H => (aBox (q + 0) t0).go H fun x1 H => p (aFld 3 x1) fun x2 => (aLoad false 1 x2).go H fun x3 H => (aLen 1 x3).go H fun x4 H => j2 c.n H.length x1 (ci 0) x3 x4 (ci 0) H
def j169_1 (c : Cx) : F1 := b169_1 c (j169_2 c)
theorem o169_1 (c : Cx) : d169_1 c = j169_1 c := by
  unfold j169_1; rw [← o169_2]
  funext t0 H
  refine Eq.trans (stepK_jn c.pc c.ic c.n _ H _ 16777217 c169_1) ?_
  kernel_rfl
def b169_0 (c : Cx) (j1 : F1) (t0 : V) (H : List Blk) : X := j1 t0 H
def s169 (c : Cx) (args : List V) (H : List Blk) : X := argsK 1 args (b169_0 c (j169_1 c) (getT args 0) H)
theorem e169 (pc ic n args H) : runK pc ic n c169 args H = s169 ⟨pc, ic, n⟩ args H := by
  unfold s169; rw [← o169_1]
  kernel_rfl
def L169 : Leaf := ⟨c169, fun pc ic n => s169 ⟨pc, ic, n⟩, e169⟩
theorem kk169 : chkFn Go.Proofs.Tryz.prog ET 169 c169 = true := by kernel_rfl

def c170_2 : C := (.seq (.reg 0 none [o 23 (.load true 4) [.t 2] 0, ⟨none, .store 4, [.t 4, .t 23], none, 0, 1⟩]) .ret)
def c170_3 : C := (.seq (.reg 0 none [o 32 (.load true 4) [.t 2] 0, ⟨none, .store 4, [.t 4, .t 32], none, 0, 1⟩]) .ret)
def l170_0 : List O := [o 24 (.fld 3) [.t 2] 0, ⟨some 25, .load false 1, [.t 24], none, 1, 1⟩, m 26 (.t 5) 2, o 27 (.load true 8) [.t 3] 3, ⟨some 28, .icall 167, [.t 27], none, 8, 4⟩, ⟨some 29, .bsa 0 8 z1 1 [0], [.t 28], none, 24, 5⟩, ⟨some 30, .insA 1 8 104, [.t 25, .t 26, .t 29], none, 63, 6⟩, ⟨some 31, .fld 3, [.t 2], none, 127, 7⟩, ⟨none, .store 1, [.t 31, .t 30], none, 255, 8⟩]
def c170_s1 : C := (.seq (.reg 2 (some ⟨false, [], 33⟩) l170_0) (.jn 25769803796 c170_3))
def l170_1 : List O := [o 17 (.fld 3) [.t 2] 0, ⟨some 18, .load false 1, [.t 17], none, 1, 1⟩, m 19 (.t 5) 2, o 20 (.load true 8) [.t 3] 3, ⟨some 21, .icall 167, [.t 20], none, 8, 4⟩, ⟨some 22, .ix 8, [.t 18, .t 19], none, 31, 5⟩, ⟨none, .store 8, [.t 22, .t 21], none, 63, 6⟩]
def c170_1 : C := (.seq (.reg 3 none [o 2 (.box 0) [.t 0] 0, o 3 (.box 1) [.t 1] 1, o 4 (.alloc 2 z0) [] 2]) (.seq (.reg 0 none [o 8 (.load true 4) [.t 2] 0, o 9 (.fld 0) [.t 3] 1, o 10 (.load false 1) [.t 9] 2, o 11 (.call 166) [.t 8, .t 10] 3, m 7 (.t 11) 4, o 12 (.ext 0) [.t 7] 5, o 13 (.ext 1) [.t 7] 6, m 5 (.t 12) 7, m 6 (.t 13) 8]) (.seq (.reg 0 none [o 14 (.load true 4) [.t 2] 0, o 15 (.icall 258) [.t 14] 1, ⟨none, .store 4, [.t 2, .t 15], none, 0, 2⟩]) (.seq (.seq (.reg 0 none [m 16 (.t 6) 0]) (.cond (.t 16) (.seq (.reg 0 (some ⟨false, [], 33⟩) l170_1) (.jn 17179869204 c170_2)) .skip)) c170_s1))))
def c170 : Fn := { fid := 170, np := 2, ntmps := 33, body := (.jn 8589934595 c170_1), res := [.cell 4 true 4] }
def d170_1 (c : Cx) (t0 t1 : V) (H : List Blk) : X := stepK c.pc c.ic c.n (.jn 8589934595 c170_1) (cn 0 33 [(0, t0), (1, t1)]) H (kTop c170.res)
def k170_1 (c : Cx) : KT := thenK (stepK c.pc c.ic c.n c170_s1) (kTop c170.res)
def d170_2 (c : Cx) (t2 t4 : V) (H : List Blk) : X := stepK c.pc c.ic c.n (.jn 17179869204 c170_2) (cn 0 33 [(2, t2), (4, t4)]) H (k170_1 c)
def b170_2 (c : Cx) (t2 t4 : V) (H : List Blk) : X := (aLoad true 4 t2).go H fun x1 H => (aStore 4 t4 x1).go H fun _ H => bnd (loadV true 4 t4 H) fun x2 => some (x2, H)
def j170_2 (c : Cx) : F2 := b170_2 c
theorem o170_2 (c : Cx) : d170_2 c = j170_2 c := by
  unfold j170_2
  funext t2 t4 H
  refine Eq.trans (stepK_jn c.pc c.ic c.n _ H _ 17179869204 c170_2) ?_
  kernel_rfl
def d170_3 (c : Cx) (t2 t4 : V) (H : List Blk) : X := stepK c.pc c.ic c.n (.jn 25769803796 c170_3) (cn 0 33 [(2, t2), (4, t4)]) H (kTop c170.res)
def b170_3 (c : Cx) (t2 t4 : V) (H : List Blk) : X := (aLoad true 4 t2).go H fun x1 H => (aStore 4 t4 x1).go H fun _ H => bnd (loadV true 4 t4 H) fun x2 => some (x2, H)
def j170_3 (c : Cx) : F2 := b170_3 c
theorem o170_3 (c : Cx) : d170_3 c = j170_3 c := by
  unfold j170_3
  funext t2 t4 H
  refine Eq.trans (stepK_jn c.pc c.ic c.n _ H _ 25769803796 c170_3) ?_
  kernel_rfl
def b170_1 (c : Cx) (j2 : F2) (j3 : F2) (t0 t1 : V) (H : List Blk) : X := newK 3 H fun q H => (aBox (q + 0) t0).go H fun x1 H => (aBox (q + 1) t1).go H fun x2 H => (aAlloc (q + 2) z0).go H fun x3 H => (aLoad true 4 x1).go H fun x4 H => p (aFld 0 x2) fun x5 => (fun (t0 t1 x1 x2 x3 x4 x5 : V) (H : L) (c : Cx) (j2 : F2) (j3 : F2) => (aLoad false 1 x5).go H fun x6 H => p (aCall c.pc 166 [x4, x6]) fun x7 => p (aExt 0 x7) fun x8 => p (aExt 1 x7) fun x9 => (aLoad true 4 x1).go H fun x10 H => icK c 258 [x10] H fun x11 H => (aStore 4 x1 x11).go H fun _ H => condK x9 ((fun (t0 t1 x1 x2 x3 x4 x5 x6 x7 x8 x9 x10 x11 : V) (H : L) (c : Cx) (j2 : F2) => drawnK c.pc c.ic l170_1 0 (cn 0 33 [(0, t0), (1, t1), (2, x1), (3, x2), (4, x3), (5, x8), (6, x9), (7, x7), (8, x4), (9, x5), (10, x6), (11, x7), (12, x8), (13, x9), (14, x10), (15, x11), (16, x9)]) H fun ts11 H => j2 (getT ts11 2) (getT ts11 4) H) t0 t1 x1 x2 x3 x4 x5 x6 x7 x8 x9 x10 x11 H c j2) ((fun (t0 t1 x1 x2 x3 x4 x5 x6 x7 x8 x9 x10 x11 : V) (H : L) (c : Cx) (j3 : F2) => newK 2 H fun q H => drawnK c.pc c.ic l170_0 q (cn 0 33 [(0, t0), (1, t1), (2, x1), (3, x2), (4, x3), (5, x8), (6, x9), (7, x7), (8, x4), (9, x5), (10, x6), (11, x7), (12, x8), (13, x9), (14, x10), (15, x11), (16, x9)]) H fun ts12 H => j3 (getT ts12 2) (getT ts12 4) H) t0 t1 x1 x2 x3 x4 x5 x6 x7 x8 x9 x10 x11 H c j3)) t0 t1 x1 x2 x3 x4 x5 H c j2 j3
def j170_1 (c : Cx) : F2 := b170_1 c (j170_2 c) (j170_3 c)
theorem o170_1 (c : Cx) : d170_1 c = j170_1 c := by
  unfold j170_1; rw [← o170_2, ← o170_3]
  funext t0 t1 H
  refine Eq.trans (stepK_jn c.pc c.ic c.n _ H _ 8589934595 c170_1) ?_
  kernel_rfl
def b170_0 (c : Cx) (j1 : F2) (t0 t1 : V) (H : List Blk) : X := j1 t0 t1 H
def s170 (c : Cx) (args : List V) (H : List Blk) : X := argsK 2 args (b170_0 c (j170_1 c) (getT args 0) (getT args 1) H)
theorem e170 (pc ic n args H) : runK pc ic n c170 args H = s170 ⟨pc, ic, n⟩ args H := by
  unfold s170; rw [← o170_1]
  kernel_rfl
def L170 : Leaf := ⟨c170, fun pc ic n => s170 ⟨pc, ic, n⟩, e170⟩
theorem kk170 : chkFn Go.Proofs.Tryz.prog ET 170 c170 = true := by kernel_rfl

def c171_1 : C := (.seq (.reg 2 none [o 3 (.box 0) [.t 0] 0, o 6 (.alloc 1 z1) [] 1]) (.seq (.reg 0 none [o 9 (.load true 8) [.t 3] 0, m 10 (.t 1) 1, o 11 (.icall 175) [.t 9, .t 10] 2, ⟨none, .store 8, [.t 3, .t 11], none, 0, 3⟩]) (.seq (.reg 0 none [o 13 (.load true 8) [.t 3] 0, m 14 (.t 1) 1, o 15 (.icall 10172) [.t 13, .t 14] 2, m 12 (.t 15) 3, o 16 (.ext 0) [.t 12] 4, o 17 (.ext 1) [.t 12] 5, m 7 (.t 16) 6, m 8 (.t 17) 7]) (.seq (.reg 2 none [o 18 (.fld 7) [.t 3] 0, o 19 (.load false 1) [.t 18] 1, m 20 (.t 7) 2, m 21 (.t 1) 3, m 22 (.t 2) 4, o 23 (.build z6 [(0, 1), (1, 1)]) [.t 21, .t 22] 5, o 24 (.bsa 0 2 z6 1 [0]) [.t 23] 6, o 25 (.insA 1 2 24) [.t 19, .t 20, .t 24] 7, o 26 (.fld 7) [.t 3] 8, ⟨none, .store 1, [.t 26, .t 25], none, 0, 9⟩]) (.seq (.reg 0 none [o 27 (.load true 8) [.t 3] 0, ⟨none, .store 8, [.t 6, .t 27], none, 0, 1⟩]) .ret)))))
def c171 : Fn := { fid := 171, np := 3, ntmps := 28, body := (.jn 268435463 c171_1), res := [.cell 6 true 8] }
def d171_1 (c : Cx) (t0 t1 t2 : V) (H : List Blk) : X := stepK c.pc c.ic c.n (.jn 268435463 c171_1) (cn 0 28 [(0, t0), (1, t1), (2, t2)]) H (kTop c171.res)
def b171_1 (c : Cx) (t0 t1 t2 : V) (H : List Blk) : X := newK 2 H fun q H => (aBox (q + 0) t0).go H fun x1 H => (aAlloc (q + 1) z1).go H fun x2 H => (aLoad true 8 x1).go H fun x3 H => icK c 175 [x3, t1] H fun x4 H => (aStore 8 x1 x4).go H fun _ H => (aLoad true 8 x1).go H fun x5 H => icK c 10172 [x5, t1] H fun x6 H => p (aExt 0 x6) fun x7 => p (aExt 1 x6) fun x8 => newK 2 H fun q H => p (aFld 7 x1) fun x9 => (aLoad false 1 x9).go H fun x10 H => p (aBuild z6 [(0, 1), (1, 1)] [t1, t2]) fun x11 => (fun (x1 x2 x7 x10 x11 : V) (q : Nat) (H : L) => (aBsa (q + 0) 2 z6 1 [0] [x11]).go H fun x12 H => (aInsA (q + 1) 2 24 x10 x7 x12).go H fun x13 H => p (aFld 7 x1) fun x14 => (aStore 1 x14 x13).go H fun _ H => (aLoad true 8 x1).go H fun x15 H => (aStore 8 x2 x15).go H fun _ H => bnd (loadV true 8 x2 H) fun x16 => some (x16, H)) x1 x2 x7 x10 x11 q H
def j171_1 (c : Cx) : F3 := b171_1 c
theorem o171_1 (c : Cx) : d171_1 c = j171_1 c := by
  unfold j171_1
  funext t0 t1 t2 H
  refine Eq.trans (stepK_jn c.pc c.ic c.n _ H _ 268435463 c171_1) ?_
  kernel_rfl
def b171_0 (c : Cx) (j1 : F3) (t0 t1 t2 : V) (H : List Blk) : X := j1 t0 t1 t2 H
def s171 (c : Cx) (args : List V) (H : List Blk) : X := argsK 3 args (b171_0 c (j171_1 c) (getT args 0) (getT args 1) (getT args 2) H)
theorem e171 (pc ic n args H) : runK pc ic n c171 args H = s171 ⟨pc, ic, n⟩ args H := by
  unfold s171; rw [← o171_1]
  kernel_rfl
def L171 : Leaf := ⟨c171, fun pc ic n => s171 ⟨pc, ic, n⟩, e171⟩
theorem kk171 : chkFn Go.Proofs.Tryz.prog ET 171 c171 = true := by kernel_rfl

def c172 : Fn := { fid := 172, np := 2, ntmps := 12, body := (.seq (.reg 1 none [o 2 (.box 0) [.t 0] 0, m 4 (.c (ci 0)) 1, m 5 (.c cf) 2]) (.seq (.reg 0 none [o 6 (.fld 7) [.t 2] 0, o 7 (.load false 1) [.t 6] 1, m 8 (.t 1) 2, o 9 (.icall 261) [.t 7, .t 8, .c (.fn 262 [])] 3, o 10 (.ext 0) [.t 9] 4, o 11 (.ext 1) [.t 9] 5, m 4 (.t 10) 6, m 5 (.t 11) 7]) .ret)), res := [.tmp 4, .tmp 5] }
def b172_0 (c : Cx) (t0 t1 : V) (H : List Blk) : X := newK 1 H fun q H => (aBox (q + 0) t0).go H fun x1 H => p (aFld 7 x1) fun x2 => (aLoad false 1 x2).go H fun x3 H => icK c 261 [x3, t1, (.fn 262 [])] H fun x4 H => p (aExt 0 x4) fun x5 => p (aExt 1 x4) fun x6 => some (.tup [x5, x6], H)
def s172 (c : Cx) (args : List V) (H : List Blk) : X := argsK 2 args (b172_0 c (getT args 0) (getT args 1) H)
theorem e172 (pc ic n args H) : runK pc ic n c172 args H = s172 ⟨pc, ic, n⟩ args H := by
  unfold s172
  kernel_rfl
def L172 : Leaf := ⟨c172, fun pc ic n => s172 ⟨pc, ic, n⟩, e172⟩
theorem kk172 : chkFn Go.Proofs.Tryz.prog ET 172 c172 = true := by kernel_rfl

def c175_2 : C := (.seq (.reg 0 none [o 29 (.load true 8) [.t 2] 0, ⟨none, .store 8, [.t 4, .t 29], none, 0, 1⟩]) .ret)
def c175_1 : C := (.seq (.reg 2 none [o 2 (.box 0) [.t 0] 0, o 4 (.alloc 1 z1) [] 1]) (.seq (.reg 1 none [o 8 (.build z0 []) [] 0, o 9 (.load true 8) [.t 2] 1, o 10 (.icall 170) [.t 8, .t 9] 2, o 5 (.alloc 0 z0) [] 3, ⟨none, .store 4, [.t 5, .t 10], none, 0, 4⟩]) (.seq (.reg 0 none [o 11 (.fld 3) [.t 5] 0, o 12 (.load false 1) [.t 11] 1, o 13 (.ix 8) [.t 12, .c (ci 0)] 2, o 14 (.load true 8) [.t 13] 3, ⟨none, .store 8, [.t 2, .t 14], none, 0, 4⟩]) (.seq (.seq (.reg 0 none [o 16 (.load true 8) [.t 2] 0, m 17 (.t 1) 1, o 18 (.icall 10172) [.t 16, .t 17] 2, m 15 (.t 18) 3, o 19 (.ext 0) [.t 15] 4, o 20 (.ext 1) [.t 15] 5, m 6 (.t 19) 6, m 7 (.t 20) 7]) (.seq (.reg 0 none [m 21 (.t 7) 0]) (.cond (.t 21) (.reg 0 none [o 22 (.fld 7) [.t 2] 0, o 23 (.load false 1) [.t 22] 1, m 24 (.t 6) 2, m 25 (.t 6) 3, o 26 (.bin .add) [.t 25, .c (ci 1)] 4, o 27 (.icall 265) [.t 23, .t 24, .t 26] 5, o 28 (.fld 7) [.t 2] 6, ⟨none, .store 1, [.t 28, .t 27], none, 0, 7⟩]) .skip))) (.jn 2147483668 c175_2)))))
def c175 : Fn := { fid := 175, np := 2, ntmps := 30, body := (.jn 1073741827 c175_1), res := [.cell 4 true 8] }
def d175_1 (c : Cx) (t0 t1 : V) (H : List Blk) : X := stepK c.pc c.ic c.n (.jn 1073741827 c175_1) (cn 0 30 [(0, t0), (1, t1)]) H (kTop c175.res)
def d175_2 (c : Cx) (t2 t4 : V) (H : List Blk) : X := stepK c.pc c.ic c.n (.jn 2147483668 c175_2) (cn 0 30 [(2, t2), (4, t4)]) H (kTop c175.res)
def b175_2 (c : Cx) (t2 t4 : V) (H : List Blk) : X := (aLoad true 8 t2).go H fun x1 H => (aStore 8 t4 x1).go H fun _ H => bnd (loadV true 8 t4 H) fun x2 => some (x2, H)
def j175_2 (c : Cx) : F2 := b175_2 c
theorem o175_2 (c : Cx) : d175_2 c = j175_2 c := by
  unfold j175_2
  funext t2 t4 H
  refine Eq.trans (stepK_jn c.pc c.ic c.n _ H _ 2147483668 c175_2) ?_
  kernel_rfl
def b175_1 (c : Cx) (j2 : F2) (t0 t1 : V) (H : List Blk) : X := newK 2 H fun q H => (aBox (q + 0) t0).go H fun x1 H => (aAlloc (q + 1) z1).go H fun x2 H => newK 1 H fun q H => p (aBuild z0 [] []) fun x3 => (fun (t1 x1 x2 x3 : V) (q : Nat) (H : L) (c : Cx) (j2 : F2) => (aLoad true 8 x1).go H fun x4 H => icK c 170 [x3, x4] H fun x5 H => (aAlloc (q + 0) z0).go H fun x6 H => (aStore 4 x6 x5).go H fun _ H => p (aFld 3 x6) fun x7 => (fun (t1 x1 x2 x7 : V) (H : L) (c : Cx) (j2 : F2) => (aLoad false 1 x7).go H fun x8 H => p (aIx 8 x8 (ci 0)) fun x9 => (aLoad true 8 x9).go H fun x10 H => (aStore 8 x1 x10).go H fun _ H => (aLoad true 8 x1).go H fun x11 H => icK c 10172 [x11, t1] H fun x12 H => p (aExt 0 x12) fun x13 => p (aExt 1 x12) fun x14 => condK x14 ((fun (x1 x2 x13 : V) (H : L) (c : Cx) (j2 : F2) => p (aFld 7 x1) fun x15 => (aLoad false 1 x15).go H fun x16 H => p (aBin .add x13 (ci 1)) fun x17 => icK c 265 [x16, x13, x17] H fun x18 H => p (aFld 7 x1) fun x19 => (aStore 1 x19 x18).go H fun _ H => j2 x1 x2 H) x1 x2 x13 H c j2) (j2 x1 x2 H)) t1 x1 x2 x7 H c j2) t1 x1 x2 x3 q H c j2
def j175_1 (c : Cx) : F2 := b175_1 c (j175_2 c)
theorem o175_1 (c : Cx) : d175_1 c = j175_1 c := by
  unfold j175_1; rw [← o175_2]
  funext t0 t1 H
  refine Eq.trans (stepK_jn c.pc c.ic c.n _ H _ 1073741827 c175_1) ?_
  kernel_rfl
def b175_0 (c : Cx) (j1 : F2) (t0 t1 : V) (H : List Blk) : X := j1 t0 t1 H
def s175 (c : Cx) (args : List V) (H : List Blk) : X := argsK 2 args (b175_0 c (j175_1 c) (getT args 0) (getT args 1) H)
theorem e175 (pc ic n args H) : runK pc ic n c175 args H = s175 ⟨pc, ic, n⟩ args H := by
  unfold s175; rw [← o175_1]
  kernel_rfl
def L175 : Leaf := ⟨c175, fun pc ic n => s175 ⟨pc, ic, n⟩, e175⟩
theorem kk175 : chkFn Go.Proofs.Tryz.prog ET 175 c175 = true := by kernel_rfl

def c176_2 : C := (.seq (.reg 0 none [o 23 (.load true 4) [.t 2] 0, ⟨none, .store 4, [.t 4, .t 23], none, 0, 1⟩]) .ret)
def c176_1 : C := (.seq (.reg 2 none [o 2 (.box 0) [.t 0] 0, o 4 (.alloc 1 z0) [] 1]) (.seq (.reg 0 none [o 8 (.load true 4) [.t 2] 0, m 9 (.t 1) 1, o 10 (.call 166) [.t 8, .t 9] 2, m 7 (.t 10) 3, o 11 (.ext 0) [.t 7] 4, o 12 (.ext 1) [.t 7] 5, m 5 (.t 11) 6, m 6 (.t 12) 7]) (.seq (.reg 0 none [o 13 (.load true 4) [.t 2] 0, o 14 (.icall 258) [.t 13] 1, ⟨none, .store 4, [.t 2, .t 14], none, 0, 2⟩]) (.seq (.seq (.reg 0 none [m 15 (.t 6) 0]) (.cond (.t 15) (.reg 0 none [o 16 (.fld 3) [.t 2] 0, o 17 (.load false 1) [.t 16] 1, m 18 (.t 5) 2, m 19 (.t 5) 3, o 20 (.bin .add) [.t 19, .c (ci 1)] 4, o 21 (.icall 266) [.t 17, .t 18, .t 20] 5, o 22 (.fld 3) [.t 2] 6, ⟨none, .store 1, [.t 22, .t 21], none, 0, 7⟩]) .skip)) (.jn 33554452 c176_2)))))
def c176 : Fn := { fid := 176, np := 2, ntmps := 24, body := (.jn 16777219 c176_1), res := [.cell 4 true 4] }
def d176_1 (c : Cx) (t0 t1 : V) (H : List Blk) : X := stepK c.pc c.ic c.n (.jn 16777219 c176_1) (cn 0 24 [(0, t0), (1, t1)]) H (kTop c176.res)
def d176_2 (c : Cx) (t2 t4 : V) (H : List Blk) : X := stepK c.pc c.ic c.n (.jn 33554452 c176_2) (cn 0 24 [(2, t2), (4, t4)]) H (kTop c176.res)
def b176_2 (c : Cx) (t2 t4 : V) (H : List Blk) : X := (aLoad true 4 t2).go H fun x1 H => (aStore 4 t4 x1).go H fun _ H => bnd (loadV true 4 t4 H) fun x2 => some (x2, H)
def j176_2 (c : Cx) : F2 := b176_2 c
theorem o176_2 (c : Cx) : d176_2 c = j176_2 c := by
  unfold j176_2
  funext t2 t4 H
  refine Eq.trans (stepK_jn c.pc c.ic c.n _ H _ 33554452 c176_2) ?_
  kernel_rfl
def b176_1 (c : Cx) (j2 : F2) (t0 t1 : V) (H : List Blk) : X := newK 2 H fun q H => (aBox (q + 0) t0).go H fun x1 H => (aAlloc (q + 1) z0).go H fun x2 H => (aLoad true 4 x1).go H fun x3 H => p (aCall c.pc 166 [x3, t1]) fun x4 => p (aExt 0 x4) fun x5 => p (aExt 1 x4) fun x6 => (aLoad true 4 x1).go H fun x7 H => icK c 258 [x7] H fun x8 H => (aStore 4 x1 x8).go H fun _ H => condK x6 ((fun (x1 x2 x5 : V) (H : L) (c : Cx) (j2 : F2) => p (aFld 3 x1) fun x9 => (aLoad false 1 x9).go H fun x10 H => p (aBin .add x5 (ci 1)) fun x11 => icK c 266 [x10, x5, x11] H fun x12 H => p (aFld 3 x1) fun x13 => (aStore 1 x13 x12).go H fun _ H => j2 x1 x2 H) x1 x2 x5 H c j2) (j2 x1 x2 H)
def j176_1 (c : Cx) : F2 := b176_1 c (j176_2 c)
theorem o176_1 (c : Cx) : d176_1 c = j176_1 c := by
  unfold j176_1; rw [← o176_2]
  funext t0 t1 H
  refine Eq.trans (stepK_jn c.pc c.ic c.n _ H _ 16777219 c176_1) ?_
  kernel_rfl
def b176_0 (c : Cx) (j1 : F2) (t0 t1 : V) (H : List Blk) : X := j1 t0 t1 H
def s176 (c : Cx) (args : List V) (H : List Blk) : X := argsK 2 args (b176_0 c (j176_1 c) (getT args 0) (getT args 1) H)
theorem e176 (pc ic n args H) : runK pc ic n c176 args H = s176 ⟨pc, ic, n⟩ args H := by
  unfold s176; rw [← o176_1]
  kernel_rfl
def L176 : Leaf := ⟨c176, fun pc ic n => s176 ⟨pc, ic, n⟩, e176⟩
theorem kk176 : chkFn Go.Proofs.Tryz.prog ET 176 c176 = true := by kernel_rfl

def c177 : Fn := { fid := 177, np := 2, ntmps := 8, body := (.seq (.reg 1 none [o 2 (.box 0) [.t 0] 0, m 3 (.c cf) 1]) (.seq (.reg 0 none [o 4 (.fld 0) [.t 2] 0, o 5 (.load true 2) [.t 4] 1, o 6 (.load true 2) [.t 1] 2, o 7 (.beq false [0, 0]) [.t 5, .t 6] 3, m 3 (.t 7) 4]) .ret)), res := [.tmp 3] }
def b177_0 (c : Cx) (t0 t1 : V) (H : List Blk) : X := newK 1 H fun q H => (aBox (q + 0) t0).go H fun x1 H => p (aFld 0 x1) fun x2 => (aLoad true 2 x2).go H fun x3 H => (aLoad true 2 t1).go H fun x4 H => p (aBeq false [0, 0] x3 x4) fun x5 => some (x5, H)
def s177 (c : Cx) (args : List V) (H : List Blk) : X := argsK 2 args (b177_0 c (getT args 0) (getT args 1) H)
theorem e177 (pc ic n args H) : runK pc ic n c177 args H = s177 ⟨pc, ic, n⟩ args H := by
  unfold s177
  kernel_rfl
def L177 : Leaf := ⟨c177, fun pc ic n => s177 ⟨pc, ic, n⟩, e177⟩
theorem kk177 : chkFn Go.Proofs.Tryz.prog ET 177 c177 = true := by kernel_rfl

end
end Go.Vm.T
