/- The machine told by what comes next: so that each function of a program can be printed as plain Lean, equal to its code by computation. -/
import Derived.Test.YtjffpbodflkehaaGreatDoorOVmDraw
set_option linter.unusedVariables false
set_option linter.unusedSimpArgs false
namespace Go.Vm

/-- Nothing, a number, under names: only so that the words below stand higher than jnK in the kernel's order of unfolding. -/
def noR {R : Type} : Option R := none
def id1 (n : Nat) : Nat := n
def id2 (n : Nat) : Nat := id1 n
def id3 (n : Nat) : Nat := id2 n
def id4 (n : Nat) : Nat := id3 n
def idN (n : Nat) : Nat := id4 n
noncomputable def bndK {α R : Type} (k : α → Option R) (x : Option α) : Option R := Option.rec (motive := fun _ => Option R) noR k x
noncomputable def bnd {α R : Type} (x : Option α) (k : α → Option R) : Option R := bndK k x
theorem bnd_eq {α R : Type} (x : Option α) (k : α → Option R) : bndK k x = x.bind k := by cases x <;> rfl
section
variable {R : Type}
noncomputable def Eff.go (H : List Blk) (k : V → List Blk → Option R) (e : Eff) : Option R :=
  Eff.rec (motive := fun _ => Option R) (fun v => bndK (fun v => k v H) v) (fun b _ ih => ih (getBF H b)) (fun b f => bndK (fun r => k r.2 (setBF H b r.1)) (f (getBF H b))) e
theorem Eff.go_run (H : List Blk) (k : V → List Blk → Option R) : ∀ e : Eff, e.go H k = (e.run H).bind fun r => k r.1 r.2
  | .ret v => by cases v <;> rfl
  | .get b f => by
    show (f (getBF H b)).go H k = _
    rw [getBF_eq]; simp only [Eff.run]; exact Eff.go_run H k _
  | .put b f => by
    show bndK (fun r => k r.2 (setBF H b r.1)) (f (getBF H b)) = _
    rw [getBF_eq]
    simp only [Eff.run, setBF_eq]
    cases f (getB H b) <;> rfl

/-- An operation that is wanted, or not. -/
noncomputable def guardG (e : (V → List Blk → Option R) → Option R) (k : V → List Blk → Option R) (H : List Blk) (b : Bool) (v : V) : Option R :=
  V.rec (motive_1 := fun _ => Option R) (motive_2 := fun _ => Unit)
    (fun d => D.rec (motive_1 := fun _ => Option R) (motive_2 := fun _ => Unit) (motive_3 := fun _ => Unit) (fun _ _ => noR) (fun c => Bool.rec (Bool.rec (e k) (k undefV H) c) (Bool.rec (k undefV H) (e k) c) b) (fun _ => noR) (fun _ _ => noR) (fun _ _ => noR) (fun _ _ => noR) noR (fun _ _ _ => noR) (fun _ _ => noR) noR () (fun _ _ _ _ => ()) () (fun _ _ _ _ => ()) d)
    (fun _ _ => noR) (fun _ _ _ _ _ => noR) (fun _ _ _ => noR) (fun _ => noR) (fun _ _ _ => noR) (fun _ _ => noR) (fun l _ => List.rec (k undefV H) (fun _ _ _ => noR) l) noR noR (fun _ => noR) (fun _ => noR) noR noR () (fun _ _ _ _ => ()) v
noncomputable def guardK (v : V) (b : Bool) (e : (V → List Blk → Option R) → Option R) (H : List Blk) (k : V → List Blk → Option R) : Option R := guardG e k H b v
noncomputable def condK (v : V) (a b : Option R) : Option R :=
  V.rec (motive_1 := fun _ => Option R) (motive_2 := fun _ => Unit)
    (fun d => D.rec (motive_1 := fun _ => Option R) (motive_2 := fun _ => Unit) (motive_3 := fun _ => Unit) (fun _ _ => noR) (fun c => Bool.rec b a c) (fun _ => noR) (fun _ _ => noR) (fun _ _ => noR) (fun _ _ => noR) noR (fun _ _ _ => noR) (fun _ _ => noR) noR () (fun _ _ _ _ => ()) () (fun _ _ _ _ => ()) d)
    (fun _ _ => noR) (fun _ _ _ _ _ => noR) (fun _ _ _ => noR) (fun _ => noR) (fun _ _ _ => noR) (fun _ _ => noR) (fun _ _ => noR) noR noR (fun _ => noR) (fun _ => noR) noR noR () (fun _ _ _ _ => ()) v
noncomputable def callK (ic : Nat → List V → List Blk → Option (V × List Blk)) (xs : List V) (H : List Blk) (k : V → List Blk → Option R) : Option R := bndK (fun r => k r.1 r.2) (callFn ic [] xs H)
noncomputable def execK (pc : Nat → List D → Option D) (ic : Nat → List V → List Blk → Option (V × List Blk)) (op : K) (base : Nat) (xs : List V) (H : List Blk) (k : V → List Blk → Option R) : Option R :=
  match op with
  | .icall j => bndK (fun r => k r.1 r.2) (ic j xs H)
  | .dcall => callK ic xs H k
  | .mov => match xs with
    | [x] => k x H
    | _ => noR
  | op => (act pc base op xs).go H k

variable (pc : Nat → List D → Option D) (ic : Nat → List V → List Blk → Option (V × List Blk))

theorem execK_eq (op : K) (base : Nat) (xs : List V) (H : List Blk) (k : V → List Blk → Option R) : execK pc ic op base xs H k = (exec pc ic [] op base xs H).bind fun r => k r.1 r.2 := by
  cases op
  case mov => match xs with
    | [] => rfl
    | [x] => rfl
    | _ :: _ :: _ => rfl
  all_goals first
    | (simp only [execK, exec, Eff.go_run]; done)
    | exact bnd_eq _ _

/-- The row of temporaries is spelled out for what comes next. -/
noncomputable def normK (ts : List V) : (List V → Option R) → Option R :=
  List.rec (motive := fun _ => (List V → Option R) → Option R) (fun k => k (listT [] 0 0))
    (fun v _ ih k => ih fun l => k (v :: l)) ts
theorem normK_eq : ∀ (ts : List V) (k : List V → Option R), normK ts k = k ts
  | [], _ => rfl
  | _ :: l, _ => normK_eq l _
/-- A temporary is set; after every fortieth operation the row is spelled out anew. -/
noncomputable def putK (ts : List V) (dst : Option Nat) (v : V) (pos : Nat) (k : List V → Option R) : Option R := match Nat.beq (pos % 40) 39 with
  | true => normK (put ts dst v) k
  | false => k (put ts dst v)
theorem putK_eq (ts : List V) (dst : Option Nat) (v : V) (pos : Nat) (k : List V → Option R) : putK ts dst v pos k = k (put ts dst v) := by
  unfold putK; split
  · exact normK_eq _ _
  · rfl
noncomputable def opersK (base : Nat) (os : List O) : List V → List Blk → (List V → List Blk → Option R) → Option R :=
  List.rec (motive := fun _ => List V → List Blk → (List V → List Blk → Option R) → Option R) (fun ts H k => k ts H)
    (fun o _ ih ts H k => match o.guard with
      | none => execK pc ic o.op base (evs ts o.args) H fun v H => putK ts o.dst v o.pos fun ts => ih ts H k
      | some g => guardG (execK pc ic o.op base (evs ts o.args) H) (fun v H => putK ts o.dst v o.pos fun ts => ih ts H k) H g.2 (getT ts g.1)) os
theorem opersK_nil (base : Nat) (ts : List V) (H : List Blk) (k : List V → List Blk → Option R) : opersK pc ic base [] ts H k = k ts H := rfl
theorem opersK_cons (base : Nat) (o : O) (os : List O) (ts : List V) (H : List Blk) (k : List V → List Blk → Option R) : opersK pc ic base (o :: os) ts H k = match o.guard with
    | none => execK pc ic o.op base (evs ts o.args) H fun v H => opersK pc ic base os (put ts o.dst v) H k
    | some g => guardK (getT ts g.1) g.2 (execK pc ic o.op base (evs ts o.args) H) H fun v H => opersK pc ic base os (put ts o.dst v) H k := by
  have h : (fun (v : V) (H : List Blk) => putK ts o.dst v o.pos fun ts => opersK pc ic base os ts H k) = fun v H => opersK pc ic base os (put ts o.dst v) H k := by
    funext v H; exact putK_eq _ _ _ _ _
  rw [← h]; rfl

theorem guardK_eq (ts : List V) (t : Nat) (b : Bool) (e : Option (V × List Blk)) (H : List Blk) (k : V → List Blk → Option R) (f : (V → List Blk → Option R) → Option R) (hf : f k = e.bind fun r => k r.1 r.2) :
    guardK (getT ts t) b f H k = (want ts (some (t, b))).bind fun w => if w then e.bind fun r => k r.1 r.2 else k undefV H := by
  simp only [guardK, guardG, want]
  generalize getT ts t = v
  cases v <;> try rfl
  case d x =>
    cases x <;> try rfl
    case bool c => cases b <;> cases c <;> simp [hf]
  case tup l => cases l <;> rfl

theorem opersK_eq (base : Nat) : ∀ (os : List O) (ts : List V) (H : List Blk) (k : List V → List Blk → Option R), opersK pc ic base os ts H k = (opers pc ic os ⟨base, ts, H⟩).bind fun S => k S.tmps S.heap
  | [], ts, H, k => rfl
  | o :: os, ts, H, k => by
    have hb : ∀ (v : V) (H : List Blk), opersK pc ic base os (put ts o.dst v) H k = (opers pc ic os ⟨base, put ts o.dst v, H⟩).bind fun S => k S.tmps S.heap := fun v H => opersK_eq base os _ H k
    simp only [opersK_cons, opers, oper]
    cases hg : o.guard with
    | none =>
      simp only [want, Option.bind_some, if_true]
      rw [execK_eq]
      cases exec pc ic [] o.op base (evs ts o.args) H with
      | none => rfl
      | some r => simp only [Option.bind_some, Option.map_some]; exact hb _ _
    | some g =>
      obtain ⟨t, b⟩ := g
      simp only
      rw [guardK_eq ts t b (exec pc ic [] o.op base (evs ts o.args) H) H _ _ (execK_eq pc ic _ _ _ _ _)]
      cases want ts (some (t, b)) with
      | none => rfl
      | some w =>
        cases w
        · simp only [Option.bind_some, Bool.false_eq_true, if_false]; exact hb _ _
        · simp only [Option.bind_some, if_true]
          cases exec pc ic [] o.op base (evs ts o.args) H with
          | none => rfl
          | some r => simp only [Option.bind_some, Option.map_some]; exact hb _ _

noncomputable def deads (n : Nat) : List Blk := Nat.rec [] (fun _ ih => .dead :: ih) n
theorem deads_eq (n : Nat) : deads n = List.replicate n .dead := by
  induction n with
  | zero => rfl
  | succ n ih =>
    show Blk.dead :: deads n = _
    rw [ih]; rfl
noncomputable def appB (H l : List Blk) : List Blk := List.rec l (fun b _ ih => b :: ih) H
theorem appB_eq : ∀ H l : List Blk, appB H l = H ++ l
  | [], _ => rfl
  | b :: H, l => congrArg (b :: ·) (appB_eq H l)
noncomputable def lenB (H : List Blk) : Nat := List.rec 0 (fun _ _ ih => Nat.add ih 1) H
theorem lenB_eq : ∀ H : List Blk, lenB H = H.length
  | [] => rfl
  | b :: H => by
    show Nat.add (lenB H) 1 = _
    rw [lenB_eq H]; rfl
noncomputable def newG (k : Nat → List Blk → Option R) (H : List Blk) (na : Nat) : Option R := Nat.rec (k 0 H) (fun n _ => k (lenB H) (appB H (deads (Nat.succ n)))) na
noncomputable def newK (na : Nat) (H : List Blk) (k : Nat → List Blk → Option R) : Option R := newG k H na
/-- What comes behind the first of two, behind a block. -/
def thenK (f : List V → List Blk → (Ex → List V → List Blk → Option R) → Option R) (k : Ex → List V → List Blk → Option R) (e : Ex) (ts : List V) (H : List Blk) : Option R :=
  match e with
  | .nrm => f ts H k
  | .exit i => k (.exit (idN i)) ts H
  | .ret => k .ret ts H
def blkK (id : Nat) (k : Ex → List V → List Blk → Option R) (e : Ex) (ts : List V) (H : List Blk) : Option R :=
  match e with
  | .exit i => (match Nat.beq i id with | true => k .nrm ts H | false => k (.exit i) ts H)
  | e => k e ts H
noncomputable def drawnK (ops : List O) (base : Nat) (ts : List V) (H : List Blk) (k : List V → List Blk → Option R) : Option R := drawnF pc ic base ops 0 [] ts H k
/-- A join: the word at which a function's printed form meets its code. -/
def jnK (f : List V → List Blk → (Ex → List V → List Blk → Option R) → Option R) (ts : List V) (H : List Blk) (k : Ex → List V → List Blk → Option R) (keep : Nat) : Option R := f ts H k
theorem jnK_eq (keep : Nat) (f : List V → List Blk → (Ex → List V → List Blk → Option R) → Option R) (ts : List V) (H : List Blk) (k : Ex → List V → List Blk → Option R) : jnK f ts H k keep = f ts H k := rfl
/-! What a loop's head looks at. -/
noncomputable def noRefF (n : Nat) (v : V) : Bool :=
  V.rec (motive_1 := fun _ => Bool) (motive_2 := fun _ => Bool) (fun _ => true) (fun b _ => notB (Nat.ble n b)) (fun b _ _ _ _ => notB (Nat.ble n b)) (fun b _ _ => notB (Nat.ble n b)) (fun b => notB (Nat.ble n b)) (fun _ _ ih => ih) (fun _ ih => ih) (fun _ ih => ih) true true (fun _ => true) (fun _ => true) true true
    true (fun _ _ ih iht => Bool.rec false iht ih) v
noncomputable def noRefR (n : Nat) (vs : List V) : Bool :=
  @V.rec_1 (fun _ => Bool) (fun _ => Bool) (fun _ => true) (fun b _ => notB (Nat.ble n b)) (fun b _ _ _ _ => notB (Nat.ble n b)) (fun b _ _ => notB (Nat.ble n b)) (fun b => notB (Nat.ble n b)) (fun _ _ ih => ih) (fun _ ih => ih) (fun _ ih => ih) true true (fun _ => true) (fun _ => true) true true
    true (fun _ _ ih iht => Bool.rec false iht ih) vs
mutual
theorem noRefF_eq (n : Nat) : ∀ v : V, noRefF n v = noRef (fun x => decide (n ≤ x)) v
  | .d x => by simp only [noRef]; rfl
  | .vec b _ => by simp only [noRef]; rw [← ble_eq, ← notB_eq]; rfl
  | .arr b _ _ _ _ => by simp only [noRef]; rw [← ble_eq, ← notB_eq]; rfl
  | .ptr b _ _ => by simp only [noRef]; rw [← ble_eq, ← notB_eq]; rfl
  | .map b => by simp only [noRef]; rw [← ble_eq, ← notB_eq]; rfl
  | .fn f cap => by
    show noRefR n cap = _
    rw [noRefR_eq n cap]; simp only [noRef]
  | .agg cs => by
    show noRefR n cs = _
    rw [noRefR_eq n cs]; simp only [noRef]
  | .tup cs => by
    show noRefR n cs = _
    rw [noRefR_eq n cs]; simp only [noRef]
  | .nilS => by simp only [noRef]; rfl
  | .e0 => by simp only [noRef]; rfl
  | .nn _ => by simp only [noRef]; rfl
  | .ex _ => by simp only [noRef]; rfl
  | .nilF => by simp only [noRef]; rfl
  | .junk => by simp only [noRef]; rfl
theorem noRefR_eq (n : Nat) : ∀ vs : List V, noRefR n vs = noRefs (fun x => decide (n ≤ x)) vs
  | [] => by simp only [noRefs]; rfl
  | v :: vs => by
    show (Bool.rec false (noRefR n vs) (noRefF n v) : Bool) = _
    rw [noRefR_eq n vs, noRefF_eq n v]
    simp only [noRefs]
    cases noRef (fun x => decide (n ≤ x)) v <;> rfl
end
noncomputable def noRefE (n : Nat) (es : List (D × V)) : Bool := List.rec true (fun e _ ih => Bool.rec false ih (noRefF n e.2)) es
theorem noRefE_eq (n : Nat) : ∀ es : List (D × V), noRefE n es = es.all fun e => noRef (fun x => decide (n ≤ x)) e.2
  | [] => rfl
  | e :: es => by
    show (Bool.rec false (noRefE n es) (noRefF n e.2) : Bool) = _
    rw [noRefE_eq n es, noRefF_eq, List.all_cons]
    cases noRef (fun x => decide (n ≤ x)) e.2 <;> rfl
noncomputable def noRefBF (n : Nat) (b : Blk) : Bool := Blk.rec true true (fun _ cells => noRefR n cells) (fun _ _ => true) (fun es => noRefE n es) b
theorem noRefBF_eq (n : Nat) (b : Blk) : noRefBF n b = noRefB (fun x => decide (n ≤ x)) b := by
  cases b <;> try rfl
  · exact noRefR_eq n _
  · exact noRefE_eq n _
/-- The first n blocks, where none of them leads behind them. -/
noncomputable def headB (n : Nat) (m : Nat) (H : List Blk) (k : List Blk → Option (List Blk)) : Option (List Blk) :=
  Nat.rec (motive := fun _ => List Blk → (List Blk → Option (List Blk)) → Option (List Blk)) (fun _ k => k []) (fun _ ih H k => List.rec (k []) (fun b t _ => Bool.rec none (ih t fun l => k (b :: l)) (noRefBF n b)) H) m H k
theorem headB_eq (n : Nat) : ∀ (m : Nat) (H : List Blk) (k : List Blk → Option (List Blk)), headB n m H k = if (H.take m).all (noRefB fun x => decide (n ≤ x)) then k (H.take m) else none
  | 0, H, k => by
    show k [] = _
    simp
  | m + 1, [], k => by
    show k [] = _
    simp
  | m + 1, b :: H, k => by
    show (Bool.rec none (headB n m H fun l => k (b :: l)) (noRefBF n b) : Option (List Blk)) = _
    rw [headB_eq n m H, noRefBF_eq, List.take_succ_cons, List.all_cons]
    cases noRefB (fun x => decide (n ≤ x)) b <;> simp
noncomputable def trimF (trim : Bool) (n : Nat) (ts : List V) (H : List Blk) : Option (List Blk) := Bool.rec (some H) (Bool.rec none (headB n n H fun l => some l) (noRefR n ts)) trim
theorem trimF_eq (trim : Bool) (n : Nat) (ts : List V) (H : List Blk) : trimF trim n ts H = trimmed trim n ts H := by
  cases trim with
  | false => rfl
  | true =>
    show (Bool.rec none (headB n n H fun l => some l) (noRefR n ts) : Option (List Blk)) = _
    rw [headB_eq, noRefR_eq]
    unfold trimmed
    cases h : noRefs (fun x => decide (n ≤ x)) ts <;> simp
noncomputable def loopsK (body : List V → List Blk → (Ex → List V → List Blk → Option R) → Option R) (keep : Nat) (trim : Bool) (n : Nat) (m : Nat) : List V → List Blk → (Ex → List V → List Blk → Option R) → Option R :=
  Nat.rec (motive := fun _ => List V → List Blk → (Ex → List V → List Blk → Option R) → Option R) (fun _ _ _ => none)
    (fun _ ih ts H k => bndK (fun H => body ts H (thenK (fun ts H k => jnK ih (maskT keep 0 ts) H k keep) k)) (trimF trim n ts H)) m
theorem loopsK_zero (body : List V → List Blk → (Ex → List V → List Blk → Option R) → Option R) (keep : Nat) (trim : Bool) (n : Nat) (ts : List V) (H : List Blk) (k : Ex → List V → List Blk → Option R) : loopsK body keep trim n 0 ts H k = none := rfl
theorem loopsK_succ (body : List V → List Blk → (Ex → List V → List Blk → Option R) → Option R) (keep : Nat) (trim : Bool) (n m : Nat) (ts : List V) (H : List Blk) (k : Ex → List V → List Blk → Option R) :
    loopsK body keep trim n (m + 1) ts H k = bndK (fun H => body ts H (thenK (fun ts H k => jnK (loopsK body keep trim n m) (maskT keep 0 ts) H k keep) k)) (trimF trim n ts H) := rfl

noncomputable def regK (na : Nat) (draw : Option Draw) (ops : List O) (ts : List V) (H : List Blk) (k : Ex → List V → List Blk → Option R) : Option R :=
  newG (fun base H => match draw with
    | none => opersK pc ic base ops ts H (k .nrm)
    | some d => match d.stat with
      | true => opersK pc ic base ops ts H (k .nrm)
      | false => drawnK pc ic ops base ts H fun ts H => k .nrm (listT ts d.n 0) H) H na

noncomputable def stepK (n : Nat) (c : C) : List V → List Blk → (Ex → List V → List Blk → Option R) → Option R :=
  C.rec (motive := fun _ => List V → List Blk → (Ex → List V → List Blk → Option R) → Option R)
    (fun ts H k => k .nrm ts H)
    (fun ts H k => k .ret ts H)
    (fun id ts H k => k (.exit id) ts H)
    (fun na draw ops ts H k => regK pc ic na draw ops ts H k)
    (fun _ _ iha ihb ts H k => iha ts H (thenK ihb k))
    (fun c _ _ iha ihb ts H k => condK (c.ev ts) (iha ts H k) (ihb ts H k))
    (fun id _ ih ts H k => ih ts H (blkK id k))
    (fun keep trim _ ih ts H k => jnK (loopsK ih keep trim H.length n) (maskT keep 0 ts) H k keep)
    (fun keep _ ih ts H k => jnK ih (maskT keep 0 ts) H k keep) c
section
variable (n : Nat) (ts : List V) (H : List Blk) (k : Ex → List V → List Blk → Option R)
theorem stepK_skip : stepK pc ic n .skip ts H k = k .nrm ts H := rfl
theorem stepK_ret : stepK pc ic n .ret ts H k = k .ret ts H := rfl
theorem stepK_exit (id : Nat) : stepK pc ic n (.exit id) ts H k = k (.exit id) ts H := rfl
theorem stepK_reg (na : Nat) (draw : Option Draw) (ops : List O) : stepK pc ic n (.reg na draw ops) ts H k = regK pc ic na draw ops ts H k := rfl
theorem stepK_seq (a b : C) : stepK pc ic n (.seq a b) ts H k = stepK pc ic n a ts H (thenK (stepK pc ic n b) k) := rfl
theorem stepK_cond (c : Opd) (a b : C) : stepK pc ic n (.cond c a b) ts H k = condK (c.ev ts) (stepK pc ic n a ts H k) (stepK pc ic n b ts H k) := rfl
theorem stepK_blk (id : Nat) (c : C) : stepK pc ic n (.blk id c) ts H k = stepK pc ic n c ts H (blkK id k) := rfl
theorem stepK_loop (keep : Nat) (trim : Bool) (c : C) : stepK pc ic n (.loop keep trim c) ts H k = loopsK (stepK pc ic n c) keep trim H.length n (maskT keep 0 ts) H k := rfl
theorem stepK_jn (keep : Nat) (c : C) : stepK pc ic n (.jn keep c) ts H k = stepK pc ic n c (maskT keep 0 ts) H k := rfl
end

theorem newK_eq (na : Nat) (H : List Blk) (k : Nat → List Blk → Option R) : newG k H na = k (newB na H).1 (newB na H).2 := by
  cases na with
  | zero => rfl
  | succ n =>
    show k (lenB H) (appB H (deads (n + 1))) = _
    rw [lenB_eq, appB_eq, deads_eq]; rfl

theorem stepK_eq (n : Nat) : ∀ (c : C) (b : Nat) (ts : List V) (H : List Blk) (k : Ex → List V → List Blk → Option R), stepK pc ic n c ts H k = (step pc ic n c ⟨b, ts, H⟩).bind fun r => k r.1 r.2.tmps r.2.heap := by
  intro c
  induction c with
  | skip => intros; rfl
  | ret => intros; rfl
  | exit id => intros; rfl
  | reg na d ops =>
    intro b ts H k
    simp only [stepK_reg, regK, step, newK_eq]
    cases d with
    | none =>
      simp only [opersK_eq]
      cases opers pc ic ops ⟨(newB na H).1, ts, (newB na H).2⟩ <;> rfl
    | some d =>
      simp only
      cases d.stat
      · simp only [drawnK, drawnF_eq]
        cases drawn pc ic ops 0 [] ⟨(newB na H).1, ts, (newB na H).2⟩ <;> rfl
      · simp only [opersK_eq]
        cases opers pc ic ops ⟨(newB na H).1, ts, (newB na H).2⟩ <;> rfl
  | seq a c iha ihc =>
    intro b ts H k
    simp only [stepK_seq, stepK_blk, stepK_loop, step]
    rw [iha b]
    cases step pc ic n a ⟨b, ts, H⟩ with
    | none => rfl
    | some r =>
      obtain ⟨e, S⟩ := r
      simp only [Option.bind_some]
      cases e with
      | nrm => simp only [thenK]; exact ihc S.base S.tmps S.heap k
      | exit i => rfl
      | ret => rfl
  | cond c x y ihx ihy =>
    intro b ts H k
    simp only [stepK_cond, step, condK]
    generalize c.ev ts = v
    cases v <;> try rfl
    case d z =>
      cases z <;> try rfl
      case bool t =>
        cases t
        · simp only [Bool.false_eq_true, if_false]; exact ihy b ts H k
        · simp only [if_true]; exact ihx b ts H k
  | blk id c ih =>
    intro b ts H k
    simp only [stepK_seq, stepK_blk, stepK_loop, step]
    rw [ih b]
    cases step pc ic n c ⟨b, ts, H⟩ with
    | none => rfl
    | some r =>
      obtain ⟨e, S⟩ := r
      simp only [Option.bind_some, Option.map_some]
      cases e with
      | nrm => rfl
      | exit i =>
        simp only [blkK]
        by_cases h : i = id
        · subst h; simp
        · have : Nat.beq i id = false := by
            cases hb : Nat.beq i id
            · rfl
            · exact absurd (Nat.eq_of_beq_eq_true hb) h
          simp [h, this]
      | ret => rfl
  | loop keep trim c ih =>
    intro b ts H k
    simp only [stepK_seq, stepK_blk, stepK_loop, step]
    have key : ∀ (n0 m : Nat) (b : Nat) (ts : List V) (H : List Blk), loopsK (stepK pc ic n c) keep trim n0 m (maskT keep 0 ts) H k = (loops (step pc ic n c) keep trim n0 m ⟨b, ts, H⟩).bind fun r => k r.1 r.2.tmps r.2.heap := by
      intro n0 m
      induction m with
      | zero => intros; rfl
      | succ m ihm =>
        intro b ts H
        simp only [loopsK_succ, loops, bnd_eq, trimF_eq]
        cases trimmed trim n0 (maskT keep 0 ts) H with
        | none => rfl
        | some H1 =>
          simp only [Option.bind_some]
          rw [ih 0]
          cases step pc ic n c ⟨0, maskT keep 0 ts, H1⟩ with
          | none => rfl
          | some r =>
            obtain ⟨e, S⟩ := r
            simp only [Option.bind_some]
            cases e with
            | nrm => simp only [thenK, jnK]; exact ihm S.base S.tmps S.heap
            | exit i => rfl
            | ret => rfl
    exact key H.length n b ts H
  | jn keep c ih =>
    intro b ts H k
    simp only [stepK_jn, step]
    exact ih 0 _ H k

/-! ### What a function gives -/
noncomputable def res1K (r : Res) (ts : List V) (H : List Blk) (k : V → Option R) : Option R :=
  match r with
  | .tmp t => k (getT ts t)
  | .cell t agg n => bndK k (loadV agg n (getT ts t) H)
noncomputable def resAllK : List Res → List V → List Blk → (List V → Option R) → Option R
  | [], _, _, k => k []
  | r :: rs, ts, H, k => res1K r ts H fun v => resAllK rs ts H fun vs => k (v :: vs)
noncomputable def resK (rs : List Res) (ts : List V) (H : List Blk) (k : V → Option R) : Option R :=
  match rs with
  | [] => k (.tup [])
  | [r] => res1K r ts H k
  | r :: q :: rs => resAllK (r :: q :: rs) ts H fun vs => k (.tup vs)
theorem res1K_eq (r : Res) (S : St) (k : V → Option R) : res1K r S.tmps S.heap k = (res1 S r).bind k := by
  cases r
  · rfl
  · exact bnd_eq _ _
theorem resAllK_eq (S : St) : ∀ (rs : List Res) (k : List V → Option R), resAllK rs S.tmps S.heap k = (resAll S rs).bind k
  | [], k => rfl
  | r :: rs, k => by
    simp only [resAllK, resAll, res1K_eq]
    cases res1 S r with
    | none => rfl
    | some v =>
      simp only [Option.bind_some]
      rw [resAllK_eq S rs]
      cases resAll S rs <;> rfl
theorem resK_eq (rs : List Res) (S : St) (k : V → Option R) : resK rs S.tmps S.heap k = (results S rs).bind k := by
  match rs with
  | [] => rfl
  | [r] => exact res1K_eq r S k
  | r :: q :: rs =>
    simp only [resK, results, resAllK_eq]
    cases resAll S (r :: q :: rs) <;> rfl
end

abbrev X := Option (V × List Blk)
noncomputable def kTop (rs : List Res) (e : Ex) (ts : List V) (H : List Blk) : X :=
  match e with
  | .exit _ => none
  | _ => resK rs ts H fun v => some (v, H)
noncomputable def argsK (n : Nat) (args : List V) (x : X) : X := Bool.rec none x (Nat.beq (lenV0 args) n)
theorem argsK_eq (n : Nat) (args : List V) (x : X) : argsK n args x = if args.length = n then x else none := by
  unfold argsK; rw [lenV0_eq, beq_eq]
  by_cases h : args.length = n <;> simp [h]
noncomputable def runK (pc : Nat → List D → Option D) (ic : Nat → List V → List Blk → X) (n : Nat) (fn : Fn) (args : List V) (H : List Blk) : X :=
  argsK fn.np args (stepK pc ic n fn.body (initT args fn.np fn.ntmps) H (kTop fn.res))
theorem runK_eq (pc : Nat → List D → Option D) (ic : Nat → List V → List Blk → X) (n : Nat) (fn : Fn) (args : List V) (H : List Blk) : runK pc ic n fn args H = runF pc ic n fn args H := by
  unfold runK runF
  rw [argsK_eq]
  split
  · rw [stepK_eq pc ic n fn.body 0]
    cases step pc ic n fn.body ⟨0, initT args fn.np fn.ntmps, H⟩ with
    | none => rfl
    | some r =>
      obtain ⟨e, S⟩ := r
      simp only [Option.bind_some]
      cases e <;> simp only [kTop]
      · rw [resK_eq]; cases results S fn.res <;> rfl
      · rw [resK_eq]; cases results S fn.res <;> rfl
  · rfl

/-- A function of a program: its code; the same as plain Lean. -/
structure Leaf where
  fn : Fn
  sem : (Nat → List D → Option D) → (Nat → List V → List Blk → X) → Nat → List V → List Blk → X
  ok : ∀ pc ic n args H, runK pc ic n fn args H = sem pc ic n args H
/-- A function that is told by its code's run. -/
noncomputable def coldL (fn : Fn) : Leaf := ⟨fn, fun pc ic n args H => runK pc ic n fn args H, fun _ _ _ _ _ => rfl⟩
structure ProgS where
  leaf : Nat → Option Leaf
  prim : Nat → List D → Option D
noncomputable def ofDs0 (ds : List D) : List V := List.rec [] (fun x _ ih => ofDF x :: ih) ds
theorem ofDs0_eq : ∀ ds : List D, ofDs0 ds = ds.map ofD
  | [] => rfl
  | x :: ds => by
    show ofDF x :: ofDs0 ds = _
    rw [ofDF_eq, ofDs0_eq ds]; rfl
/-- A value as data, where most of it is data already. -/
noncomputable def toDHF (H : List Blk) (v : V) : Option D :=
  V.rec (motive_1 := fun _ => Option D) (motive_2 := fun _ => Option (List D)) (fun x => some x) (fun _ rows => some (.list rows)) (fun b ver sz off len => toDH H depth (.arr b ver sz off len)) (fun _ _ _ => none) (fun _ => none) (fun _ _ _ => none)
    (fun _ ih => Option.rec none (fun l => some (.agg l)) ih) (fun _ ih => Option.rec none (fun l => some (.tup l)) ih) (some (.list [])) (some (.list [])) (fun rows => some (.list rows)) (fun rows => some (.list rows)) none none
    (some []) (fun _ _ ih iht => Option.rec none (fun x => Option.rec none (fun l => some (x :: l)) iht) ih) v
noncomputable def toDHR (H : List Blk) (vs : List V) : Option (List D) :=
  @V.rec_1 (fun _ => Option D) (fun _ => Option (List D)) (fun x => some x) (fun _ rows => some (.list rows)) (fun b ver sz off len => toDH H depth (.arr b ver sz off len)) (fun _ _ _ => none) (fun _ => none) (fun _ _ _ => none)
    (fun _ ih => Option.rec none (fun l => some (.agg l)) ih) (fun _ ih => Option.rec none (fun l => some (.tup l)) ih) (some (.list [])) (some (.list [])) (fun rows => some (.list rows)) (fun rows => some (.list rows)) none none
    (some []) (fun _ _ ih iht => Option.rec none (fun x => Option.rec none (fun l => some (x :: l)) iht) ih) vs
mutual
theorem toDHF_eq (H : List Blk) : ∀ v : V, toDHF H v = toDH H depth v
  | .agg cs => by
    show (Option.rec none (fun l => some (D.agg l)) (toDHR H cs) : Option D) = toDW (toDH H 7) H _
    rw [toDHR_eq H cs]; simp only [toDW]; cases toDWs (toDH H 7) H cs <;> rfl
  | .tup cs => by
    show (Option.rec none (fun l => some (D.tup l)) (toDHR H cs) : Option D) = toDW (toDH H 7) H _
    rw [toDHR_eq H cs]; simp only [toDW]; cases toDWs (toDH H 7) H cs <;> rfl
  | .d x => by show some x = toDW (toDH H 7) H _; simp only [toDW, toD]
  | .vec _ rows => by show some _ = toDW (toDH H 7) H _; simp only [toDW, toD]
  | .arr .. => rfl
  | .ptr .. => by show none = toDW (toDH H 7) H _; simp only [toDW, toD]
  | .map _ => by show none = toDW (toDH H 7) H _; simp only [toDW, toD]
  | .fn .. => by show none = toDW (toDH H 7) H _; simp only [toDW, toD]
  | .nilS => by show some _ = toDW (toDH H 7) H _; simp only [toDW, toD]
  | .e0 => by show some _ = toDW (toDH H 7) H _; simp only [toDW, toD]
  | .nn rows => by show some _ = toDW (toDH H 7) H _; simp only [toDW, toD]
  | .ex rows => by show some _ = toDW (toDH H 7) H _; simp only [toDW, toD]
  | .nilF => by show none = toDW (toDH H 7) H _; simp only [toDW, toD]
  | .junk => by show none = toDW (toDH H 7) H _; simp only [toDW, toD]
theorem toDHR_eq (H : List Blk) : ∀ vs : List V, toDHR H vs = toDWs (toDH H 7) H vs
  | [] => by simp only [toDWs]; rfl
  | v :: vs => by
    show (Option.rec none (fun x => Option.rec none (fun l => some (x :: l)) (toDHR H vs)) (toDHF H v) : Option (List D)) = _
    rw [toDHR_eq H vs, toDHF_eq H v]
    simp only [toDWs]
    show _ = (toDH H depth v).bind _
    cases toDH H depth v with
    | none => rfl
    | some x => simp only [Option.bind_some]; cases toDWs (toDH H 7) H vs <;> rfl
end
noncomputable def valS (x : X) : Option D := Option.rec none (fun r => toDHF r.2 r.1) x
theorem valS_eq (x : X) : valS x = x.bind fun r => toDH r.2 depth r.1 := by
  cases x with
  | none => rfl
  | some r => exact toDHF_eq _ _
noncomputable def primS (H : List Blk) (f : List D → Option D) (ds : Option (List D)) : X := Option.rec none (fun ds => Option.rec none (fun r => some (ofDF r, H)) (f ds)) ds
theorem primS_eq (H : List Blk) (f : List D → Option D) (args : List V) : primS H f (toDsF args) = ((toDs args).bind fun ds => f ds).map fun r => (ofD r, H) := by
  rw [toDsF_eq]
  cases toDs args with
  | none => rfl
  | some ds =>
    show (Option.rec none (fun r => some (ofDF r, H)) (f ds) : X) = _
    simp only [Option.bind_some]
    cases f ds with
    | none => rfl
    | some d => simp only [Option.map_some, ofDF_eq]
noncomputable def tidyF (n : Nat) (v : V) (H : List Blk) : V × List Blk := Bool.rec (v, H) (Option.rec (v, H) (fun l => (v, l)) (headB n n H fun l => some l)) (noRefF n v)
theorem tidyF_eq (n : Nat) (v : V) (H : List Blk) : tidyF n v H = tidy n (v, H) := by
  unfold tidyF tidy
  rw [noRefF_eq, headB_eq]
  cases noRef (fun x => decide (n ≤ x)) v with
  | false => simp
  | true => cases (H.take n).all (noRefB fun x => decide (n ≤ x)) <;> simp
noncomputable def tidyX (H : List Blk) (x : X) : X := Option.rec none (fun r => some (tidyF (lenB H) r.1 r.2)) x
theorem tidyX_eq (H : List Blk) (x : X) : tidyX H x = x.map (tidy H.length) := by
  cases x with
  | none => rfl
  | some r =>
    show some (tidyF (lenB H) r.1 r.2) = _
    rw [tidyF_eq, lenB_eq]; rfl
noncomputable def callS (Φ : ProgS) (k : Nat) : Nat → List V → List Blk → X :=
  Nat.rec (motive := fun _ => Nat → List V → List Blk → X) (fun _ _ _ => none)
    (fun k ih j args H => Option.rec (primS H (Φ.prim j) (toDsF args)) (fun l => tidyX H (l.sem (fun j ds => valS (ih j (ofDs0 ds) [])) ih k args H)) (Φ.leaf j)) k
noncomputable def pcallS (Φ : ProgS) (k j : Nat) (ds : List D) : Option D := valS (callS Φ k j (ofDs0 ds) [])
noncomputable def ProgS.prog (Φ : ProgS) : Prog := ⟨fun j => (Φ.leaf j).map Leaf.fn, Φ.prim⟩
theorem callS_eq (Φ : ProgS) : ∀ k, callS Φ k = call Φ.prog k := by
  intro k
  induction k with
  | zero => rfl
  | succ k ih =>
    funext j args H
    show (Option.rec (primS H (Φ.prim j) (toDsF args)) (fun l => tidyX H (l.sem (fun j ds => valS (callS Φ k j (ofDs0 ds) [])) (callS Φ k) k args H)) (Φ.leaf j) : X) = _
    simp only [call, ProgS.prog]
    cases Φ.leaf j with
    | none => exact primS_eq _ _ _
    | some l =>
      simp only [Option.map_some]
      rw [← l.ok, runK_eq, ih, tidyX_eq]
      simp only [valS_eq, ofDs0_eq]
      rfl
theorem pcallS_eq (Φ : ProgS) (k j : Nat) (ds : List D) : pcallS Φ k j ds = pcall Φ.prog k j ds := by
  unfold pcallS pcall; rw [valS_eq, callS_eq, ofDs0_eq]

/-- Temporaries at a join: those that live there, at their places. i: the first one's number; n: how many. -/
def cn : Nat → Nat → List (Nat × V) → List V
  | _, 0, _ => []
  | i, n + 1, [] => .junk :: cn (i + 1) n []
  | i, n + 1, (j, v) :: l => match Nat.beq i j with
    | true => v :: cn (i + 1) n l
    | false => .junk :: cn (i + 1) n ((j, v) :: l)

/-! ### Words for printed functions -/
structure Cx where
  pc : Nat → List D → Option D
  ic : Nat → List V → List Blk → X
  n : Nat
abbrev KT := Ex → List V → List Blk → X
abbrev ci (n : Int) : V := .d (.int .i64 n)
abbrev ct : V := .d (.bool true)
abbrev cf : V := .d (.bool false)
/-- An operation that touches nothing. -/
noncomputable def p {R : Type} (e : Eff) (k : V → Option R) : Option R := Eff.rec (motive := fun _ => Option R) (fun v => bndK k v) (fun _ _ _ => noR) (fun _ _ => noR) e
noncomputable def icK (c : Cx) (j : Nat) (xs : List V) (H : List Blk) (k : V → List Blk → X) : X := bndK (fun r => k r.1 r.2) (c.ic j xs H)
noncomputable def recN {α : Type} (z : α) (s : α → α) (m : Nat) : α := Nat.rec z (fun _ ih => s ih) m
theorem recN_ok {α : Type} {f : Nat → α} {z : α} {s : α → α} (hz : f 0 = z) (hs : ∀ m, f (m + 1) = s (f m)) : f = recN z s := by
  funext m
  induction m with
  | zero => exact hz
  | succ m ih => rw [hs, ih]; rfl
abbrev o (d : Nat) (k : K) (xs : List Opd) (pos : Nat) : O := ⟨some d, k, xs, none, 0, pos⟩
abbrev m (d : Nat) (x : Opd) (pos : Nat) : O := ⟨some d, .mov, [x], none, 0, pos⟩
abbrev L := List Blk
abbrev F0 := List Blk → X
abbrev F1 := V → F0
abbrev F2 := V → F1
abbrev F3 := V → F2
abbrev F4 := V → F3
abbrev F5 := V → F4
abbrev F6 := V → F5
abbrev F7 := V → F6
abbrev F8 := V → F7
abbrev F9 := V → F8
abbrev F10 := V → F9
abbrev F11 := V → F10
abbrev F12 := V → F11
abbrev F13 := V → F12
abbrev F14 := V → F13
abbrev F15 := V → F14
abbrev F16 := V → F15
abbrev F17 := V → F16
abbrev F18 := V → F17
abbrev F19 := V → F18
abbrev F20 := V → F19
abbrev F21 := V → F20
abbrev F22 := V → F21
abbrev F23 := V → F22
abbrev F24 := V → F23
abbrev F25 := V → F24
abbrev F26 := V → F25
abbrev F27 := V → F26
abbrev F28 := V → F27
abbrev F29 := V → F28
abbrev F30 := V → F29
abbrev F31 := V → F30
abbrev F32 := V → F31
abbrev F33 := V → F32
abbrev F34 := V → F33
abbrev F35 := V → F34
abbrev F36 := V → F35
abbrev F37 := V → F36
abbrev F38 := V → F37
abbrev F39 := V → F38
abbrev F40 := V → F39
abbrev F41 := V → F40
abbrev F42 := V → F41
abbrev F43 := V → F42
abbrev F44 := V → F43
abbrev F45 := V → F44
abbrev F46 := V → F45
abbrev F47 := V → F46
abbrev F48 := V → F47
abbrev F49 := V → F48
abbrev F50 := V → F49
abbrev F51 := V → F50
abbrev F52 := V → F51
abbrev F53 := V → F52
abbrev F54 := V → F53
abbrev F55 := V → F54
abbrev F56 := V → F55
abbrev F57 := V → F56
abbrev F58 := V → F57
abbrev F59 := V → F58
abbrev F60 := V → F59
abbrev F61 := V → F60
abbrev F62 := V → F61
abbrev F63 := V → F62
abbrev F64 := V → F63
abbrev F65 := V → F64
abbrev F66 := V → F65
abbrev F67 := V → F66
abbrev F68 := V → F67
abbrev F69 := V → F68
abbrev F70 := V → F69
abbrev F71 := V → F70
abbrev F72 := V → F71
abbrev F73 := V → F72
abbrev F74 := V → F73
abbrev F75 := V → F74
abbrev F76 := V → F75
abbrev F77 := V → F76
abbrev F78 := V → F77
abbrev F79 := V → F78
abbrev F80 := V → F79
end Go.Vm
