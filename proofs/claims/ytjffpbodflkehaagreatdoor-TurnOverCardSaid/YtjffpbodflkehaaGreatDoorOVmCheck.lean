/- Does an operation of the machine stand for one of the model's? The check, and what it is worth. -/
import Derived.Test.YtjffpbodflkehaaGreatDoorOVmOpsK
set_option linter.unusedVariables false
set_option linter.unusedSimpArgs false
namespace Go.Vm
open Go.RowKit

/-- What is told of functions: which function of the model a number stands for; which are told by contracts of their own. -/
structure Env where
  fid : Nat → FuncId
  ins : FuncId → Nat → Nat → Bool
  grow : FuncId → Nat → Nat → Bool
  clone : FuncId → Nat → Nat → Bool

def okFn (P : Program) (f : FuncId) : Bool :=
  match P.funcs[f]? with
  | some fn => fn.name != "runtime.NumGoroutine" && fn.body.isSome
  | none => false
theorem callFunc_enter {P : Program} {f : FuncId} (h : okFn P f = true) (args : Array Value) (w : World) : (callFunc f args).run P w = .ok (.enter f args) w := by
  unfold okFn at h
  split at h
  · rename_i fn hf
    simp only [Bool.and_eq_true, bne_iff_ne] at h
    have h1 : (fn.name == "runtime.NumGoroutine") = false := by simpa using h.1
    have h2 : fn.body.isNone = false := by
      cases hb : fn.body with
      | none => rw [hb] at h; simp at h
      | some c => rfl
    simp only [callFunc, Sem.run_bind, run_program, Result.andThen_ok, hf, h1, h2, Bool.false_eq_true, if_false, Sem.run_pure]
  · cases h

def callB (b : Builtin) (op : Op) : Option (List Operand × List TypeId) :=
  match op with
  | .call c => (match c.callee with
    | .builtin b' => if b = b' then some (c.args.toList, c.argTypes.toList) else none
    | _ => none)
  | _ => none
theorem callB_ok {b : Builtin} {op : Op} {as : List Operand} {ts : List TypeId} (h : callB b op = some (as, ts)) : op = .call { callee := .builtin b, args := as.toArray, argTypes := ts.toArray } := by
  unfold callB at h
  split at h
  · rename_i c
    split at h
    · rename_i b' hb
      split at h
      · rename_i e
        cases h
        subst e
        cases c
        simp_all
      · cases h
    · cases h
  · cases h
def callV (op : Op) : Option (Operand × List Operand) :=
  match op with
  | .call c => (match c.callee with
    | .value y => some (y, c.args.toList)
    | _ => none)
  | _ => none
theorem callV_ok {op : Op} {y : Operand} {as : List Operand} (h : callV op = some (y, as)) : ∃ ts, op = .call { callee := .value y, args := as.toArray, argTypes := ts } := by
  unfold callV at h
  split at h
  · rename_i c
    split at h
    · rename_i y' hb
      cases h
      refine ⟨c.argTypes, ?_⟩
      cases c
      simp_all
    · cases h
  · cases h
def callF (op : Op) : Option (FuncId × List Operand) :=
  match callV op with
  | some (.func f, as) => some (f, as)
  | _ => none
theorem callF_ok {op : Op} {f : FuncId} {as : List Operand} (h : callF op = some (f, as)) : ∃ ts, op = .call { callee := .value (.func f), args := as.toArray, argTypes := ts } := by
  unfold callF at h
  split at h
  · rename_i f' as' hv
    cases h
    exact callV_ok hv
  · cases h

def elBytes (P : Program) (t : TypeId) : Nat :=
  match P.underlying t with
  | some (.slice e) => ((P.info? e).map (·.bytes)).getD 0
  | _ => 0
def isNeg (op : BinOp) (neg : Bool) : Bool :=
  match op with
  | .eql => !neg
  | .neq => neg
  | _ => false

def chkK (P : Program) (E : Env) (k : K) (xs : List Opd) (op : Op) : Bool :=
  match k with
  | .mov => (match op with | .move x => chkOpds xs [x] | .assign x => chkOpds xs [x] | _ => false)
  | .pick => (match op with | .pick c a b => chkOpds xs [c, a, b] | _ => false)
  | .alloc _ zero => (match op with | .alloc e => chkOpds xs [] && okZero P e zero | _ => false)
  | .box _ => (match op with | .box e x => chkOpds xs [x] | _ => false)
  | .build zero parts => (match op with | .build t ps => okBuild P t zero parts ps.toList && chkOpds xs (ps.toList.map (·.2)) | _ => false)
  | .bsl sz zero len ix => (match op with | .buildSlice t n ps => n == len && okElemsD P t sz zero && okIx ix ps.toList && decide (n * sz ≤ 2 ^ 24) && chkOpds xs (ps.toList.map (·.2)) | _ => false)
  | .bsa _ sz zero len ix => (match op with | .buildSlice t n ps => n == len && okElems P t sz zero && okIx ix ps.toList && decide (n * sz ≤ 2 ^ 24) && chkOpds xs (ps.toList.map (·.2)) | _ => false)
  | .mksl _ sz zero bytes => (match op with | .makeSlice t x y => chkOpds xs [x, y] && okEl P t sz bytes && okElZ P t zero | _ => false)
  | .mkro sz zero => (match op with | .makeSlice t x y => chkOpds xs [x, y] && okEl P t sz (elBytes P t) && okElD P t zero && decide (elBytes P t ≤ 65536) | _ => false)
  | .load agg n => (match op with | .load t x => chkOpds xs [x] && okVar P t agg n | _ => false)
  | .store n => (match op with | .store t x y => chkOpds xs [x, y] && okSize P t n | _ => false)
  | .nilchk => (match op with | .nilCheck x => chkOpds xs [x] | _ => false)
  | .bin b => (match op with | .binOp b' t x y t' => decide (b = b') && chkOpds xs [x, y] | _ => false)
  | .eqn kd neg => (match op with | .binOp b' t x y t' => isNeg b' neg && okKd P kd t x y && chkOpds xs [x, y] | _ => false)
  | .beq neg ks => (match op with | .binOp b' t x y t' => isNeg b' neg && okFlat P 9 t ks && isStr P t && !P.eqGuardType P.depth t && chkOpds xs [x, y] | _ => false)
  | .un u => (match op with | .unOp u' t x => decide (u = u') && chkOpds xs [x] | _ => false)
  | .toInt k => (match op with | .convert s d x => (match P.underlying d with | some (.int k') => decide (k = k') | _ => false) && (P.underlying s).isSome && chkOpds xs [x] | _ => false)
  | .toStr => (match op with | .convert s d x => okBytes P s && okStr P d && chkOpds xs [x] | _ => false)
  | .toBytes => (match op with | .convert s d x => okStr P s && okBytes P d && chkOpds xs [x] | _ => false)
  | .same => (match op with | .convert s d x => okStr P s && okStr P d && chkOpds xs [x] | _ => false)
  | .sealB _ => (match op with | .convert s d x => s == d && okBytes P s && chkOpds xs [x] | _ => false)
  | .mkF f => (match op with | .makeFunc g fst cap => (match g with | .func f' => f == f' && fst.toList.isEmpty && chkOpds xs cap.toList | _ => false) | _ => false)
  | .mkMap _ => (match op with | .makeMap t r => r.isNone && chkOpds xs [] | _ => false)
  | .mapPut => (match op with | .mapUpdate t m k x => okMap P t && chkOpds xs [m, k, x] | .insert t m k x => okMap P t && chkOpds xs [m, k, x] | _ => false)
  | .mapGet zero ok => (match op with | .lookup t m k ok' => okMap P t && okMapZ P t zero && ok == ok' && chkOpds xs [m, k] | _ => false)
  | .sub sz lo hi mx => (match op with | .slice t x l h m => okElem P t sz && lo == l.isSome && hi == h.isSome && mx == m.isSome && chkOpds xs (x :: optOps l h m) | _ => false)
  | .subStr lo hi => (match op with | .slice t x l h m => m.isNone && okStr P t && lo == l.isSome && hi == h.isSome && chkOpds xs (x :: optOps l h none) | _ => false)
  | .fld off => (match op with | .fieldAddr t x f => okField P t f off && chkOpds xs [x] | _ => false)
  | .fldv off n agg => (match op with | .field t x f => okPart P t f off n agg && chkOpds xs [x] | _ => false)
  | .ix sz => (match op with | .indexAddr t x y => okElem P t sz && chkOpds xs [x, y] | _ => false)
  | .ixs => (match op with | .index t x y => okStr P t && chkOpds xs [x, y] | _ => false)
  | .ext i => (match op with | .extract x j => i == j && chkOpds xs [x] | _ => false)
  | .len kd => (match callB .len op with | some ([x], [t]) => okLen P kd t && chkOpds xs [x] | _ => false)
  | .cap => (match callB .cap op with | some ([x], [t]) => okSlice P t && chkOpds xs [x] | _ => false)
  | .app _ sz bytes => (match callB .append op with | some ([x, y], [t, u]) => okEl P t sz bytes && okTail P u && chkOpds xs [x, y] | _ => false)
  | .appA _ sz bytes => (match callB .append op with | some ([x, y], [t, u]) => okEl P t sz bytes && okTail P u && chkOpds xs [x, y] | _ => false)
  | .copy sz => (match callB .copy op with | some ([x, y], [t, u]) => okElem1 P t sz && chkOpds xs [x, y] | _ => false)
  | .clear sz zero => (match callB .clear op with | some ([x], [t]) => okElems P t sz zero && decide (0 < sz) && chkOpds xs [x] | _ => false)
  | .max => (match callB .max op with | some (as, _) => chkOpds xs as | _ => false)
  | .min => (match callB .min op with | some (as, _) => chkOpds xs as | _ => false)
  | .call j => (match callF op with | some (f, as) => f == E.fid j && chkOpds xs as | _ => false)
  | .icall j => (match callF op with | some (f, as) => f == E.fid j && chkOpds xs as | _ => false)
  | .dcall => (match callV op with | some (y, as) => chkOpds xs (y :: as) | _ => false)
  | .insA _ sz bytes => (match callF op with | some (f, as) => E.ins f sz bytes && chkOpds xs as | _ => false)
  | .cloneA _ sz bytes => (match callF op with | some (f, as) => E.clone f sz bytes && chkOpds xs as | _ => false)
  | .cloneV _ sz bytes => (match callF op with | some (f, as) => E.clone f sz bytes && chkOpds xs as | _ => false)
  | .grow _ sz bytes => (match callF op with | some (f, as) => E.grow f sz bytes && chkOpds xs as | _ => false)
  | _ => false

section
variable {P : Program} {E : Env} {o : Oper} {ρ : Operand → Value} {w : World} {G : Gh} {H : List Blk} {pc : Nat → List D → Option D} {base : Nat}

/-- A world that is far from what the caller holds: what was there stays. -/
structure Far (w : World) (W : Nat → Option Nat) (w' : World) (W' : Nat → Option Nat) : Prop where
  keep : Keep w W w' W'
  os : w'.os = w.os
  tape : w'.tape = w.tape
  output : w'.output = w.output
  size : w.heap.size ≤ w'.heap.size
  old : ∀ g, g < w.heap.size → w'.heap[g]? = w.heap[g]? ∧ W' g = W g

theorem Far.T {w' : World} {W' : Nat → Option Nat} (h : Far w G.W w' W') (hs : HS G H w) : T w G H w' ⟨G.σ, W'⟩ H ∧ HS ⟨G.σ, W'⟩ H w' := by
  have hact : ∀ b, (getB H b).act → w'.heap[G.σ b]? = w.heap[G.σ b]? ∧ W' (G.σ b) = G.W (G.σ b) := fun b hb => h.old _ (hs.lt b hb)
  have hx : Ext w G H w' ⟨G.σ, W'⟩ H := by
    refine ⟨h.keep, fun b hb => hb, fun b ver' cells' hb he => ⟨ver', cells', he, Nat.le_refl _, fun _ => ⟨rfl, fun cs hcs => ⟨cs, hcs.of_heap (hact b (by rw [he]; trivial)).1, rfl⟩⟩⟩,
      fun b sz n' hb he => ⟨n', he, Nat.le_refl _, fun _ => ⟨rfl, fun cs hcs => ⟨cs, hcs.of_heap (hact b (by rw [he]; trivial)).1, rfl⟩⟩⟩, fun b es' hb he => ⟨es', he, rfl⟩⟩
  refine ⟨⟨hx, h.os, h.tape, h.output, h.size, fun b hb => .inl ⟨hb, rfl⟩, fun g hg _ => h.old g hg⟩, ⟨fun b => BR.ext hx (hs.blk b) (fun ha => ⟨rfl, hact b ha⟩), hs.inj⟩⟩

/-- What calls by value, and calls in place, are worth. -/
def PcOK (P : Program) (fid : Nat → FuncId) (pc : Nat → List D → Option D) : Prop :=
  ∀ j ds d, pc j ds = some d → ∀ (w : World) (W : Nat → Option Nat) (args : List Value), RDs w W ds args → Does P (callFunc (fid j) args.toArray) w (fun v w' => ∃ W', RD w' W' d v ∧ Far w W w' W')
def IcOK (P : Program) (fid : Nat → FuncId) (ic : Nat → List V → List Blk → Option (V × List Blk)) : Prop :=
  ∀ j xs H r H', ic j xs H = some (r, H') → ∀ (w : World) (G : Gh) (args : List Value), RVs w G H xs args → HS G H w → Does P (callFunc (fid j) args.toArray) w (Post w G H H' r)

theorem run_callV {y : Operand} {as : List Operand} {ts : Array TypeId} (ho : o.op = .call { callee := .value y, args := as.toArray, argTypes := ts }) {f : FuncId} {cap : List Value} (hy : ρ y = .func (.func f) #[] cap.toArray) :
    (execOp ρ o).run P w = (callFunc f ((as.map ρ) ++ cap).toArray).run P w := by
  simp [execOp, ho, resolve, hy, Deferred.ofValue, invoke]
theorem run_callF {f : FuncId} {as : List Operand} {ts : Array TypeId} (ho : o.op = .call { callee := .value (.func f), args := as.toArray, argTypes := ts }) (hρ : ρ (.func f) = .func (.func f) #[] #[]) :
    (execOp ρ o).run P w = (callFunc f (as.map ρ).toArray).run P w := by
  have := run_callV (P := P) (w := w) (ρ := ρ) ho (cap := []) (by rw [hρ])
  simpa using this

theorem op_call {j : Nat} {as : List Operand} {ts : Array TypeId} {xs : List V} {fid : Nat → FuncId} (hpc : PcOK P fid pc) (ho : o.op = .call { callee := .value (.func (fid j)), args := as.toArray, argTypes := ts }) (hρ : ∀ f, ρ (.func f) = .func (.func f) #[] #[])
    (hx : RVs w G H xs (as.map ρ)) (hs : HS G H w) : Good P o ρ w G H (act pc base (.call j) xs) := by
  simp only [act, aCall_eq]
  refine Good.ret fun r e => ?_
  simp only [Option.bind_eq_some_iff, Option.map_eq_some_iff] at e
  obtain ⟨ds, hd, d, hj, rfl⟩ := e
  have := hpc j ds d hj w G.W _ (toDs_ok xs ds _ hd hx)
  unfold Does
  rw [run_callF ho (hρ _)]
  refine Does.mono this fun v w' => ?_
  rintro ⟨W', hv, hf⟩
  obtain ⟨hT, hS⟩ := hf.T hs
  exact ⟨_, ofD_ok d v hv, hS, hT⟩

/-- What the operations that lean on contracts of their own are worth. -/
structure Spec (P : Program) (E : Env) : Prop where
  ins : ∀ f sz bytes, E.ins f sz bytes = true → ∀ {o : Oper} {ρ : Operand → Value} {w : World} {G : Gh} {H : List Blk} {pc : Nat → List D → Option D} {base b : Nat} {as : List Operand} {ts : Array TypeId} {xs : List V},
    o.op = .call { callee := .value (.func f), args := as.toArray, argTypes := ts } → (∀ f, ρ (.func f) = .func (.func f) #[] #[]) → RVs w G H xs (as.map ρ) → HS G H w → Good P o ρ w G H (act pc base (.insA b sz bytes) xs)
  grow : ∀ f sz bytes, E.grow f sz bytes = true → ∀ {o : Oper} {ρ : Operand → Value} {w : World} {G : Gh} {H : List Blk} {pc : Nat → List D → Option D} {base b : Nat} {as : List Operand} {ts : Array TypeId} {xs : List V},
    o.op = .call { callee := .value (.func f), args := as.toArray, argTypes := ts } → (∀ f, ρ (.func f) = .func (.func f) #[] #[]) → RVs w G H xs (as.map ρ) → HS G H w → Good P o ρ w G H (act pc base (.grow b sz bytes) xs)
  cloneA : ∀ f sz bytes, E.clone f sz bytes = true → ∀ {o : Oper} {ρ : Operand → Value} {w : World} {G : Gh} {H : List Blk} {pc : Nat → List D → Option D} {base b : Nat} {as : List Operand} {ts : Array TypeId} {xs : List V},
    o.op = .call { callee := .value (.func f), args := as.toArray, argTypes := ts } → (∀ f, ρ (.func f) = .func (.func f) #[] #[]) → RVs w G H xs (as.map ρ) → HS G H w → Good P o ρ w G H (act pc base (.cloneA b sz bytes) xs)
  cloneV : ∀ f sz bytes, E.clone f sz bytes = true → ∀ {o : Oper} {ρ : Operand → Value} {w : World} {G : Gh} {H : List Blk} {pc : Nat → List D → Option D} {base b : Nat} {as : List Operand} {ts : Array TypeId} {xs : List V},
    o.op = .call { callee := .value (.func f), args := as.toArray, argTypes := ts } → (∀ f, ρ (.func f) = .func (.func f) #[] #[]) → RVs w G H xs (as.map ρ) → HS G H w → Good P o ρ w G H (act pc base (.cloneV b sz bytes) xs)

theorem isNeg_ok {b : BinOp} {neg : Bool} (h : isNeg b neg = true) : (b = .eql ∧ neg = false) ∨ (b = .neq ∧ neg = true) := by
  unfold isNeg at h
  cases b <;> simp at h <;> simp [h]

theorem act_good {N : Nat} {ts : List V} {a : Act} {k : K} {xs : List Opd} (hE : Spec P E) (hpc : PcOK P E.fid pc) (hk : chkK P E k xs o.op = true) (hnc : isCall k = false) (hT : TR w G H N ts a) (hs : HS G H w) :
    Good P o a.eval w G H (act pc base k (evs ts xs)) := by
  have hx : ∀ {ys}, chkOpds xs ys = true → RVs w G H (evs ts xs) (ys.map a.eval) := fun h => chkOpds_ok hT h
  have hρ : ∀ f, a.eval (.func f) = .func (.func f) #[] #[] := fun _ => rfl
  unfold chkK at hk
  split at hk
  all_goals first | (simp [isCall] at hnc; done) | skip
  · split at hk
    · exact op_mov (.inl (by assumption)) (hx hk) hs
    · exact op_mov (.inr (by assumption)) (hx hk) hs
    · cases hk
  · split at hk
    · exact op_pick (by assumption) (hx hk) hs
    · cases hk
  · split at hk
    · simp only [Bool.and_eq_true] at hk; exact op_alloc (by assumption) hk.2 (hx hk.1) hs
    · cases hk
  · split at hk
    · exact op_box (by assumption) (hx hk) hs
    · cases hk
  · split at hk
    · rename_i t ps ho
      simp only [Bool.and_eq_true] at hk
      exact op_build (ps := ps.toList) (by simpa using ho) hk.1 (by have := hx hk.2; rw [List.map_map] at this; exact this) hs
    · cases hk
  · split at hk
    · rename_i t n ps ho
      simp only [Bool.and_eq_true, beq_iff_eq, decide_eq_true_eq] at hk
      obtain ⟨⟨⟨⟨rfl, h1⟩, h2⟩, h3⟩, h4⟩ := hk
      exact op_bsl (ps := ps.toList) (by simpa using ho) h1 h2 h3 (by have := hx h4; rw [List.map_map] at this; exact this) hs
    · cases hk
  · split at hk
    · rename_i t n ps ho
      simp only [Bool.and_eq_true, beq_iff_eq, decide_eq_true_eq] at hk
      obtain ⟨⟨⟨⟨rfl, h1⟩, h2⟩, h3⟩, h4⟩ := hk
      exact op_bsa (ps := ps.toList) (by simpa using ho) h1 h2 h3 (by have := hx h4; rw [List.map_map] at this; exact this) hs
    · cases hk
  · split at hk
    · simp only [Bool.and_eq_true] at hk; exact op_mksl (by assumption) hk.1.2 hk.2 (hx hk.1.1) hs
    · cases hk
  · split at hk
    · simp only [Bool.and_eq_true, decide_eq_true_eq] at hk; exact op_mkro (by assumption) hk.1.1.2 hk.1.2 hk.2 (hx hk.1.1.1) hs
    · cases hk
  · split at hk
    · simp only [Bool.and_eq_true] at hk; exact op_load (by assumption) hk.2 (hx hk.1) hs
    · cases hk
  · split at hk
    · simp only [Bool.and_eq_true] at hk; exact op_store (by assumption) hk.2 (hx hk.1) hs
    · cases hk
  · split at hk
    · exact op_nilchk (by assumption) (hx hk) hs
    · cases hk
  · split at hk
    · simp only [Bool.and_eq_true, decide_eq_true_eq] at hk
      obtain ⟨rfl, hk⟩ := hk
      exact op_bin (by assumption) (hx hk) hs
    · cases hk
  · split at hk
    · simp only [Bool.and_eq_true] at hk
      obtain ⟨⟨h1, h2⟩, h3⟩ := hk
      rcases isNeg_ok h1 with ⟨rfl, rfl⟩ | ⟨rfl, rfl⟩
      · exact op_eqn (by assumption) (.inl rfl) h2 (hx h3) hs rfl
      · exact op_eqn (by assumption) (.inr rfl) h2 (hx h3) hs rfl
    · cases hk
  · split at hk
    · simp only [Bool.and_eq_true, Bool.not_eq_true'] at hk
      obtain ⟨⟨⟨⟨h1, h2⟩, h3⟩, h4⟩, h5⟩ := hk
      rcases isNeg_ok h1 with ⟨rfl, rfl⟩ | ⟨rfl, rfl⟩
      · exact op_beq (by assumption) (.inl rfl) h2 h3 h4 (hx h5) hs rfl
      · exact op_beq (by assumption) (.inr rfl) h2 h3 h4 (hx h5) hs rfl
    · cases hk
  · split at hk
    · simp only [Bool.and_eq_true, decide_eq_true_eq] at hk
      obtain ⟨rfl, hk⟩ := hk
      exact op_un (by assumption) (hx hk) hs
    · cases hk
  · split at hk
    · simp only [Bool.and_eq_true] at hk
      obtain ⟨⟨h1, h2⟩, h3⟩ := hk
      split at h1
      · rename_i hd
        simp only [decide_eq_true_eq] at h1
        subst h1
        exact op_toInt (by assumption) hd h2 (hx h3) hs
      · cases h1
    · cases hk
  · split at hk
    · simp only [Bool.and_eq_true] at hk; exact op_toStr (by assumption) hk.1.1 hk.1.2 (hx hk.2) hs
    · cases hk
  · split at hk
    · simp only [Bool.and_eq_true] at hk; exact op_toBytes (by assumption) hk.1.1 hk.1.2 (hx hk.2) hs
    · cases hk
  · split at hk
    · simp only [Bool.and_eq_true] at hk; exact op_same (by assumption) hk.1.1 hk.1.2 (hx hk.2) hs
    · cases hk
  · split at hk
    · simp only [Bool.and_eq_true, beq_iff_eq] at hk
      obtain ⟨⟨rfl, h2⟩, h3⟩ := hk
      exact op_sealB (by assumption) h2 (hx h3) hs
    · cases hk
  · split at hk
    · rename_i g fst cap ho
      split at hk
      · rename_i f'
        simp only [Bool.and_eq_true, beq_iff_eq, List.isEmpty_iff] at hk
        obtain ⟨⟨rfl, h2⟩, h3⟩ := hk
        have h2' : fst = #[] := by
          cases fst; simp at h2; rw [h2]
        subst h2'
        exact op_mkF (cap := cap.toList) (by simpa using ho) (hx h3) hs
      · cases hk
    · cases hk
  · split at hk
    · rename_i t r ho
      simp only [Bool.and_eq_true, Option.isNone_iff_eq_none] at hk
      obtain ⟨rfl, hk⟩ := hk
      exact op_mkMap ho (hx hk) hs
    · cases hk
  · split at hk
    · simp only [Bool.and_eq_true] at hk; exact op_mapPut (.inl (by assumption)) hk.1 (hx hk.2) hs
    · simp only [Bool.and_eq_true] at hk; exact op_mapPut (.inr (by assumption)) hk.1 (hx hk.2) hs
    · cases hk
  · split at hk
    · simp only [Bool.and_eq_true, beq_iff_eq] at hk
      obtain ⟨⟨⟨h1, h2⟩, rfl⟩, h4⟩ := hk
      exact op_mapGet (by assumption) h1 h2 (hx h4) hs
    · cases hk
  · split at hk
    · simp only [Bool.and_eq_true, beq_iff_eq] at hk
      obtain ⟨⟨⟨⟨h1, rfl⟩, rfl⟩, rfl⟩, h5⟩ := hk
      exact op_sub (by assumption) h1 (hx h5) hs
    · cases hk
  · split at hk
    · simp only [Bool.and_eq_true, beq_iff_eq, Option.isNone_iff_eq_none] at hk
      obtain ⟨⟨⟨⟨rfl, h1⟩, rfl⟩, rfl⟩, h5⟩ := hk
      exact op_subStr (by assumption) h1 (hx h5) hs
    · cases hk
  · split at hk
    · simp only [Bool.and_eq_true] at hk; exact op_fld (by assumption) hk.1 (hx hk.2) hs
    · cases hk
  · split at hk
    · simp only [Bool.and_eq_true] at hk; exact op_fldv (by assumption) hk.1 (hx hk.2) hs
    · cases hk
  · split at hk
    · simp only [Bool.and_eq_true] at hk; exact op_ix (by assumption) hk.1 (hx hk.2) hs
    · cases hk
  · split at hk
    · simp only [Bool.and_eq_true] at hk; exact op_ixs (by assumption) (okStr_ok hk.1) (hx hk.2) hs
    · cases hk
  · split at hk
    · simp only [Bool.and_eq_true, beq_iff_eq] at hk
      obtain ⟨rfl, hk⟩ := hk
      exact op_ext (by assumption) (hx hk) hs
    · cases hk
  · split at hk
    · rename_i h; simp only [Bool.and_eq_true] at hk; exact op_len (callB_ok h) hk.1 (hx hk.2) hs
    · cases hk
  · split at hk
    · rename_i h; simp only [Bool.and_eq_true] at hk; exact op_cap (callB_ok h) hk.1 (hx hk.2) hs
    · cases hk
  · split at hk
    · rename_i h; simp only [Bool.and_eq_true] at hk; exact op_app (callB_ok h) hk.1.1 hk.1.2 (hx hk.2) hs
    · cases hk
  · split at hk
    · rename_i h; simp only [Bool.and_eq_true] at hk; exact op_appA (callB_ok h) hk.1.1 hk.1.2 (hx hk.2) hs
    · cases hk
  · split at hk
    · rename_i h; simp only [Bool.and_eq_true] at hk; exact op_copy (callB_ok h) hk.1 (hx hk.2) hs
    · cases hk
  · split at hk
    · rename_i h; simp only [Bool.and_eq_true, decide_eq_true_eq] at hk; exact op_clear (callB_ok h) hk.1.1 hk.1.2 (hx hk.2) hs
    · cases hk
  · split at hk
    · rename_i h; exact op_max (callB_ok h) (hx hk) hs
    · cases hk
  · split at hk
    · rename_i h; exact op_min (callB_ok h) (hx hk) hs
    · cases hk
  · split at hk
    · rename_i h
      simp only [Bool.and_eq_true, beq_iff_eq] at hk
      obtain ⟨rfl, hk⟩ := hk
      obtain ⟨ts', h⟩ := callF_ok h
      exact op_call hpc h hρ (hx hk) hs
    · cases hk
  · split at hk
    · rename_i h
      simp only [Bool.and_eq_true] at hk
      obtain ⟨ts', h⟩ := callF_ok h
      exact hE.ins _ _ _ hk.1 h hρ (hx hk.2) hs
    · cases hk
  · split at hk
    · rename_i h
      simp only [Bool.and_eq_true] at hk
      obtain ⟨ts', h⟩ := callF_ok h
      exact hE.cloneA _ _ _ hk.1 h hρ (hx hk.2) hs
    · cases hk
  · split at hk
    · rename_i h
      simp only [Bool.and_eq_true] at hk
      obtain ⟨ts', h⟩ := callF_ok h
      exact hE.cloneV _ _ _ hk.1 h hρ (hx hk.2) hs
    · cases hk
  · split at hk
    · rename_i h
      simp only [Bool.and_eq_true] at hk
      obtain ⟨ts', h⟩ := callF_ok h
      exact hE.grow _ _ _ hk.1 h hρ (hx hk.2) hs
    · cases hk
  · cases hk
end
end Go.Vm
