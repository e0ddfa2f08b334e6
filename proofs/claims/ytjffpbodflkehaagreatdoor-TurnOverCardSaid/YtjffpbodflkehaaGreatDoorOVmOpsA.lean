/- Operations of the machine that touch no slice in place: each does what the model's operation does. -/
import Derived.Test.YtjffpbodflkehaaGreatDoorOVmBase
import Derived.Laws.StructEq
import Derived.Laws.Concat
set_option linter.unusedVariables false
set_option linter.unusedSimpArgs false
namespace Go.Vm
open Go.RowKit

/-- An operation of the machine stands for one of the model's. -/
def Good (P : Program) (o : Oper) (ρ : Operand → Value) (w : World) (G : Gh) (H : List Blk) (e : Eff) : Prop :=
  ∀ r H', e.run H = some (r, H') → Does P (execOp ρ o) w (Post w G H H' r)

theorem Good.ret {P o ρ w G H} {x : Option V} (h : ∀ r, x = some r → Does P (execOp ρ o) w (Post w G H H r)) : Good P o ρ w G H (.ret x) := by
  intro r H' e
  simp only [Eff.run, Option.map_eq_some_iff, Prod.mk.injEq] at e
  obtain ⟨a, e, rfl, rfl⟩ := e
  exact h a e
theorem Good.none {P o ρ w G H} : Good P o ρ w G H (.ret none) := Good.ret (fun r e => by cases e)
theorem Good.retv {P o ρ w G H} {r : V} {v : Value} (hs : HS G H w) (he : (execOp ρ o).run P w = .ok (.value v) w) (hr : RV w G H r v) : Good P o ρ w G H (.ret (some r)) :=
  Good.ret (fun r' e => by cases e; exact Does.value he (Post.ret hr hs))
theorem Good.opt {P o ρ w G H} {x : Option V} (hs : HS G H w) (h : ∀ r, x = some r → ∃ v, (execOp ρ o).run P w = .ok (.value v) w ∧ RV w G H r v) : Good P o ρ w G H (.ret x) :=
  Good.ret (fun r e => by obtain ⟨v, h1, h2⟩ := h r e; exact Does.value h1 (Post.ret h2 hs))

section
variable {P : Program} {o : Oper} {ρ : Operand → Value} {w : World} {G : Gh} {H : List Blk} {pc : Nat → List D → Option D} {base : Nat}

theorem op_mov {x : Operand} {xs : List V} (ho : o.op = .move x ∨ o.op = .assign x) (hx : RVs w G H xs [ρ x]) (hs : HS G H w) : Good P o ρ w G H (act pc base .mov xs) := by
  cases xs with
  | nil => rw [RVs_nil] at hx; cases hx
  | cons v xs =>
    obtain ⟨u, us, e, hv, h⟩ := RVs_cons.1 hx
    cases e
    cases xs with
    | cons _ _ => obtain ⟨_, _, e, _⟩ := RVs_cons.1 h; cases e
    | nil => exact Good.retv hs (by rcases ho with h | h <;> simp [execOp, h]) hv

/-- One, two, three operands. -/
theorem RVs1 {xs : List V} {a : Value} (hx : RVs w G H xs [a]) : ∃ x, xs = [x] ∧ RV w G H x a := by
  cases xs with
  | nil => rw [RVs_nil] at hx; cases hx
  | cons v xs =>
    obtain ⟨u, us, e, hv, h⟩ := RVs_cons.1 hx
    cases e
    cases xs with
    | cons _ _ => obtain ⟨_, _, e, _⟩ := RVs_cons.1 h; cases e
    | nil => exact ⟨v, rfl, hv⟩
theorem RVs_two {xs : List V} {a : Value} {l : List Value} (hx : RVs w G H xs (a :: l)) : ∃ x xs', xs = x :: xs' ∧ RV w G H x a ∧ RVs w G H xs' l := by
  cases xs with
  | nil => rw [RVs_nil] at hx; cases hx
  | cons v xs =>
    obtain ⟨u, us, e, hv, h⟩ := RVs_cons.1 hx
    cases e
    exact ⟨v, xs, rfl, hv, h⟩
theorem RVs2 {xs : List V} {a b : Value} (hx : RVs w G H xs [a, b]) : ∃ x y, xs = [x, y] ∧ RV w G H x a ∧ RV w G H y b := by
  obtain ⟨x, l, rfl, h1, h⟩ := RVs_two hx
  obtain ⟨y, rfl, h2⟩ := RVs1 h
  exact ⟨x, y, rfl, h1, h2⟩
theorem RVs3 {xs : List V} {a b c : Value} (hx : RVs w G H xs [a, b, c]) : ∃ x y z, xs = [x, y, z] ∧ RV w G H x a ∧ RV w G H y b ∧ RV w G H z c := by
  obtain ⟨x, l, rfl, h1, h⟩ := RVs_two hx
  obtain ⟨y, z, rfl, h2, h3⟩ := RVs2 h
  exact ⟨x, y, z, rfl, h1, h2, h3⟩
theorem RVs0 {xs : List V} (hx : RVs w G H xs []) : xs = [] := by
  cases xs with
  | nil => rfl
  | cons _ _ => obtain ⟨_, _, e, _⟩ := RVs_cons.1 hx; cases e

theorem RVint {k : IntKind} {n : Int} {v : Value} (h : RV w G H (.d (.int k n)) v) : v = .int k n := by simpa only [RV, RD] using h
theorem RVbool {b : Bool} {v : Value} (h : RV w G H (.d (.bool b)) v) : v = .bool b := by simpa only [RV, RD] using h
theorem RVstr {s : List UInt8} {v : Value} (h : RV w G H (.d (.str s)) v) : v = .string ⟨s.toArray⟩ := by simpa only [RV, RD] using h

theorem op_pick {c a b : Operand} {xs : List V} (ho : o.op = .pick c a b) (hx : RVs w G H xs [ρ c, ρ a, ρ b]) (hs : HS G H w) : Good P o ρ w G H (act pc base .pick xs) := by
  obtain ⟨x, y, z, rfl, h1, h2, h3⟩ := RVs3 hx
  simp only [act, a3, aPick_eq]
  refine Good.opt hs fun r e => ?_
  split at e
  · rename_i t
    have := RVbool h1
    cases e
    refine ⟨if t then ρ a else ρ b, ?_, ?_⟩
    · simp [execOp, ho, this, asBool]
    · cases t <;> simpa
  · cases e

theorem op_nilchk {x : Operand} {xs : List V} (ho : o.op = .nilCheck x) (hx : RVs w G H xs [ρ x]) (hs : HS G H w) : Good P o ρ w G H (act pc base .nilchk xs) := by
  obtain ⟨x, rfl, h1⟩ := RVs1 hx
  simp only [act, a1, aNilchk]
  refine Good.opt hs fun r e => ?_
  split at e <;> cases e
  · have h := h1
    simp only [RV] at h
    obtain ⟨⟨a, e⟩, _⟩ := h
    exact ⟨_, by simp [execOp, ho, e]; rfl, by rw [← e]; exact h1⟩
  · have h := h1
    simp only [RV, RD] at h
    obtain ⟨_, _, e, _⟩ := h
    exact ⟨_, by simp [execOp, ho, e]; rfl, by rw [← e]; exact h1⟩
  · have h := h1
    simp only [RV] at h
    obtain ⟨_, e, _⟩ := h
    exact ⟨_, by simp [execOp, ho, e]; rfl, by rw [← e]; exact h1⟩

theorem op_ext {x : Operand} {i : Nat} {xs : List V} (ho : o.op = .extract x i) (hx : RVs w G H xs [ρ x]) (hs : HS G H w) : Good P o ρ w G H (act pc base (.ext i) xs) := by
  obtain ⟨x, rfl, h1⟩ := RVs1 hx
  simp only [act, a1, aExt_eq]
  refine Good.opt hs fun r e => ?_
  split at e
  · simp only [RV] at h1
    obtain ⟨vs, e1, h⟩ := h1
    obtain ⟨v, hv, hr⟩ := h.get e
    exact ⟨v, by simp [execOp, ho, e1, Instr.extract, hv], hr⟩
  · cases e

theorem op_toInt {s d : TypeId} {x : Operand} {k : IntKind} {xs : List V} (ho : o.op = .convert s d x) (hd : P.underlying d = some (.int k)) (hu : (P.underlying s).isSome = true) (hx : RVs w G H xs [ρ x]) (hs : HS G H w) :
    Good P o ρ w G H (act pc base (.toInt k) xs) := by
  obtain ⟨x, rfl, h1⟩ := RVs1 hx
  simp only [act, a1, aToInt_eq]
  refine Good.opt hs fun r e => ?_
  split at e
  · rename_i k' n
    cases e
    have := RVint h1
    obtain ⟨ds, hds⟩ := Option.isSome_iff_exists.1 hu
    refine ⟨.int k (k.wrap n), ?_, by simp only [RV, RD]⟩
    simp only [execOp, ho, this, convert, Sem.run_bind, run_underlying hds, run_underlying hd, Result.andThen_ok]
    simp [Conv.intToInt]
  · cases e

theorem op_mkF {f : FuncId} {cap : List Operand} {xs : List V} (ho : o.op = .makeFunc (.func f) #[] cap.toArray) (hx : RVs w G H xs (cap.map ρ)) (hs : HS G H w) : Good P o ρ w G H (act pc base (.mkF f) xs) := by
  simp only [act, aMkF]
  refine Good.opt hs fun r e => ?_
  cases e
  refine ⟨.func (.func f) #[] (cap.map ρ).toArray, by simp [execOp, ho, Instr.makeFunc], ?_⟩
  simp only [RV]
  exact ⟨_, rfl, hx⟩

theorem op_un {op : UnOp} {t : TypeId} {x : Operand} {xs : List V} (ho : o.op = .unOp op t x) (hx : RVs w G H xs [ρ x]) (hs : HS G H w) : Good P o ρ w G H (act pc base (.un op) xs) := by
  obtain ⟨x, rfl, h1⟩ := RVs1 hx
  simp only [act, a1, aUn_eq]
  refine Good.opt hs fun r e => ?_
  unfold un at e
  split at e <;> cases e
  · have := RVint h1
    exact ⟨_, by simp [execOp, ho, this, Op.unary, Op.intArith]; rfl, by simp only [RV, RD, Int.zero_sub]⟩
  · have := RVbool h1
    exact ⟨_, by simp [execOp, ho, this, Op.unary]; rfl, by simp only [RV, RD]⟩

theorem bytes_beq (s t : List UInt8) : ((⟨s.toArray⟩ : ByteArray).toList == (⟨t.toArray⟩ : ByteArray).toList) = (s == t) := by
  rw [ByteArray.toList_eq, ByteArray.toList_eq]

theorem eqGuard_pass {op : BinOp} {t : TypeId} {x y : Operand} {a b : Value} (h : ¬ (a = .nilIface ∧ b = .nilIface)) (h2 : ∀ p q, ¬ (a = .agg p ∧ b = .agg q)) : (eqGuard op t x y a b).run P w = .ok () w := by
  unfold eqGuard
  split
  · rw [Sem.run_ite]; split
    · rfl
    · split
      · exact absurd ⟨rfl, rfl⟩ h
      · exact absurd ⟨rfl, rfl⟩ (h2 _ _)
      · rfl
  · rw [Sem.run_ite]; split
    · rfl
    · split
      · exact absurd ⟨rfl, rfl⟩ h
      · exact absurd ⟨rfl, rfl⟩ (h2 _ _)
      · rfl
  · rw [Sem.run_ite]; split
    · rfl
    · split
      · exact absurd ⟨rfl, rfl⟩ h
      · exact absurd ⟨rfl, rfl⟩ (h2 _ _)
      · rfl

theorem binInt_ok {op : BinOp} {k : IntKind} {a b : Int} {r : D} {t : TypeId} (hop : op ≠ .shl ∧ op ≠ .shr) (h : binInt op k a b = some r) :
    ∃ v, (Go.binOp op t (.int k a) (.int k b)).run P w = .ok v w ∧ RD w G.W r v := by
  unfold binInt at h
  cases op <;> simp only at h hop <;> first
    | (exact absurd rfl hop.1)
    | (exact absurd rfl hop.2)
    | (cases h; exact ⟨_, by simp only [Go.binOp, ne_eq, not_true_eq_false, if_false, Op.intArith, Op.intBits, Op.intCmp]; rfl, by simp only [RD]⟩)
    | (split at h
       · cases h
       · cases h; exact ⟨_, by simp [Go.binOp, Op.intDiv, *]; rfl, by simp only [RD]⟩)
    | cases h
theorem shiftInt_ok {op : BinOp} {k k' : IntKind} {a b : Int} {r : D} {t : TypeId} (hop : op = .shl ∨ op = .shr) (h : shiftInt op k a b = some r) :
    ∃ v, (Go.binOp op t (.int k a) (.int k' b)).run P w = .ok v w ∧ RD w G.W r v := by
  unfold shiftInt at h
  split at h
  · cases h
  · rename_i hb
    rcases hop with rfl | rfl <;> (simp only at h; cases h; exact ⟨_, by simp only [Go.binOp, Op.shift, hb, if_false]; rfl, by simp only [RD]⟩)
theorem binStr_ok {op : BinOp} {a b : List UInt8} {r : D} {t : TypeId} (h : binStr op a b = some r) :
    ∃ v, (Go.binOp op t (.string ⟨a.toArray⟩) (.string ⟨b.toArray⟩)).run P w = .ok v w ∧ RD w G.W r v := by
  have hl : ∀ x : List UInt8, (⟨x.toArray⟩ : ByteArray).toList = x := fun x => by rw [ByteArray.toList_eq]
  have hz : ∀ x : List UInt8, (⟨x.toArray⟩ : ByteArray).size = x.length := fun x => rfl
  unfold binStr at h
  cases op <;> simp only at h
  case add =>
    split at h
    · cases h
    · rename_i hn
      cases h
      refine ⟨.string (⟨a.toArray⟩ ++ ⟨b.toArray⟩), ?_, ?_⟩
      · simp only [Go.binOp, Op.stringOp, hz, if_neg hn]; rfl
      · simp only [RD]
        congr 1
  all_goals first
    | (cases h
       exact ⟨_, by simp only [Go.binOp, Op.stringOp, hl]; rfl, by simp only [RD]⟩)
    | cases h

def scalarOp : BinOp → Bool
  | _ => true

theorem eqGuard_ok {op : BinOp} {t t' : TypeId} {x y : Operand} {xs : List V} {op' : BinOp} {r : V} {vx vy : V} (h : bin op vx vy = some r) (h1 : RV w G H vx (ρ x)) (h2 : RV w G H vy (ρ y)) :
    (eqGuard op t x y (ρ x) (ρ y)).run P w = .ok () w := by
  unfold bin at h
  split at h
  · rw [RVint h1, RVint h2]; exact eqGuard_pass (by simp) (by simp)
  · rw [RVstr h1, RVstr h2]; exact eqGuard_pass (by simp) (by simp)
  · cases h

theorem op_bin {op : BinOp} {t t' : TypeId} {x y : Operand} {xs : List V} (ho : o.op = .binOp op t x y t') (hx : RVs w G H xs [ρ x, ρ y]) (hs : HS G H w) : Good P o ρ w G H (act pc base (.bin op) xs) := by
  obtain ⟨vx, vy, rfl, h1, h2⟩ := RVs2 hx
  simp only [act, a2, aBin_eq]
  refine Good.opt hs fun r e => ?_
  have hg := eqGuard_ok (P := P) (t := t) (t' := t') (xs := []) (op' := op) e h1 h2
  suffices h : ∃ v, (Go.binOp op t (ρ x) (ρ y)).run P w = .ok v w ∧ RV w G H r v by
    obtain ⟨v, h, hr⟩ := h
    exact ⟨v, by simp [execOp, ho, hg, h], hr⟩
  unfold bin at e
  split at e
  · rw [RVint h1, RVint h2]
    split at e
    · simp only [Option.map_eq_some_iff] at e
      obtain ⟨d, e, rfl⟩ := e
      obtain ⟨v, a, b⟩ := shiftInt_ok (P := P) (w := w) (G := G) (t := t) (.inl rfl) e
      exact ⟨v, a, by simpa only [RV] using b⟩
    · simp only [Option.map_eq_some_iff] at e
      obtain ⟨d, e, rfl⟩ := e
      obtain ⟨v, a, b⟩ := shiftInt_ok (P := P) (w := w) (G := G) (t := t) (.inr rfl) e
      exact ⟨v, a, by simpa only [RV] using b⟩
    · rename_i n1 n2
      split at e
      · rename_i hk
        subst hk
        simp only [Option.map_eq_some_iff] at e
        obtain ⟨d, e, rfl⟩ := e
        obtain ⟨v, a, b⟩ := binInt_ok (P := P) (w := w) (G := G) (t := t) ⟨n1, n2⟩ e
        exact ⟨v, a, by simpa only [RV] using b⟩
      · cases e
  · rw [RVstr h1, RVstr h2]
    simp only [Option.map_eq_some_iff] at e
    obtain ⟨d, e, rfl⟩ := e
    obtain ⟨v, a, b⟩ := binStr_ok (P := P) (w := w) (G := G) (t := t) e
    exact ⟨v, a, by simpa only [RV] using b⟩
  · cases e

def isC : Operand → Bool
  | .const _ => true
  | _ => false

/-- Is a type one whose values '==' compares so? -/
def okKd (P : Program) (kd : Nat) (t : TypeId) (x y : Operand) : Bool :=
  match kd, P.underlying t with
  | 0, some (.pointer _) => true
  | 1, some (.interface _) => isC x || isC y
  | 2, some (.slice _) => true
  | 3, some .bool => true
  | _, _ => false

theorem equalIn_kd (d : Nat) {kd : Nat} {t : TypeId} {x y : Operand} {vx vy : V} {a b : Value} {r : Bool} (hk : okKd P kd t x y = true) (h : eqNil kd vx vy = some r) (h1 : RV w G H vx a) (h2 : RV w G H vy b) :
    (Op.equalIn (d + 1) t a b).run P w = .ok r w ∧ (∀ p q, ¬ (a = .agg p ∧ b = .agg q)) ∧ (a = .nilIface → isC x = true ∨ isC y = true) ∧
    Go.binOp .eql t a b = (do pure (.bool (← Op.equal t a b))) ∧ Go.binOp .neq t a b = (do pure (.bool (!(← Op.equal t a b)))) := by
  unfold okKd at hk
  unfold eqNil at h
  split at hk
  · rename_i e hu
    simp only at h
    unfold eqPtr at h
    split at h
    all_goals first | (cases h; done) | skip
    all_goals (simp only [RV, RD] at h1 h2; cases h)
    · subst h1 h2; exact ⟨by simp [Op.equalIn, run_underlying hu], by simp, by simp, rfl, rfl⟩
    · obtain ⟨⟨p, h2⟩, _⟩ := h2; subst h1 h2; exact ⟨by simp [Op.equalIn, run_underlying hu], by simp, by simp, rfl, rfl⟩
    · obtain ⟨⟨p, h1⟩, _⟩ := h1; subst h1 h2; exact ⟨by simp [Op.equalIn, run_underlying hu], by simp, by simp, rfl, rfl⟩
    · obtain ⟨_, _, h1, _⟩ := h1; subst h1 h2; exact ⟨by simp [Op.equalIn, run_underlying hu], by simp, by simp, rfl, rfl⟩
  · rename_i e hu
    simp only at h
    unfold eqIfc at h
    have hk' : a = .nilIface → isC x = true ∨ isC y = true := fun _ => by simpa using hk
    split at h
    all_goals first | (cases h; done) | skip
    all_goals (simp only [RV, RD] at h1 h2; cases h)
    · exact ⟨by rw [h1, h2]; simp [Op.equalIn, run_underlying hu], by rw [h1]; simp, hk', by rw [h1, h2]; rfl, by rw [h1, h2]; rfl⟩
    · obtain ⟨_, h2, _⟩ := h2; exact ⟨by rw [h1, h2]; simp [Op.equalIn, run_underlying hu], by rw [h1]; simp, hk', by rw [h1, h2]; rfl, by rw [h1, h2]; rfl⟩
    · obtain ⟨_, h1, _⟩ := h1; exact ⟨by rw [h1, h2]; simp [Op.equalIn, run_underlying hu], by rw [h1]; simp, hk', by rw [h1, h2]; rfl, by rw [h1, h2]; rfl⟩
  · rename_i e hu
    simp only at h
    unfold eqSl at h
    split at h
    all_goals first | (cases h; done) | skip
    all_goals (simp only [RV, RD] at h1 h2; cases h)
    · subst h1 h2; exact ⟨by simp [Op.equalIn, run_underlying hu], by simp, by simp, rfl, rfl⟩
    · obtain ⟨_, _, _, _, h1⟩ := h1; subst h1 h2; exact ⟨by simp [Op.equalIn, run_underlying hu], by simp, by simp, rfl, rfl⟩
    · obtain ⟨_, _, h1⟩ := h1; subst h1 h2; exact ⟨by simp [Op.equalIn, run_underlying hu], by simp, by simp, rfl, rfl⟩
    · obtain ⟨⟨_, _, h1, _⟩, _⟩ := h1; subst h1 h2; exact ⟨by simp [Op.equalIn, run_underlying hu], by simp, by simp, rfl, rfl⟩
    · obtain ⟨⟨A, cap, h1, _, hn⟩, _⟩ := h1
      obtain ⟨g, o, sz, hA, _⟩ := hn (by simp)
      subst h1 h2 hA; exact ⟨by simp [Op.equalIn, run_underlying hu], by simp, by simp, rfl, rfl⟩
    · obtain ⟨A, cap, h1, _, hn⟩ := h1
      obtain ⟨g, o, sz, hA, _⟩ := hn (by simp)
      subst h1 h2 hA; exact ⟨by simp [Op.equalIn, run_underlying hu], by simp, by simp, rfl, rfl⟩
  · rename_i hu
    simp only at h
    unfold eqBool at h
    split at h
    all_goals first | (cases h; done) | skip
    all_goals (simp only [RV, RD] at h1 h2; cases h)
    · subst h1 h2; exact ⟨by simp [Op.equalIn, run_underlying hu], by simp, by simp, rfl, rfl⟩
  · cases hk

theorem isC_ok {x : Operand} (h : isC x = true) : ∃ c, x = .const c := by
  cases x <;> first | exact ⟨_, rfl⟩ | cases h
theorem eqGuard_const {op : BinOp} {t : TypeId} {x y : Operand} {a b : Value} (h : isC x = true ∨ isC y = true) (h2 : ∀ p q, ¬ (a = .agg p ∧ b = .agg q)) :
    (eqGuard op t x y a b).run P w = .ok () w := by
  rcases h with h | h
  all_goals
    obtain ⟨c, rfl⟩ := isC_ok h
    clear h
    unfold eqGuard
    split
  all_goals
    rw [Sem.run_ite]; split
    · rfl
    · split
      · first
          | (simp only [Bool.true_or, if_true]; rfl)
          | (simp only [Bool.or_true, if_true]; rfl)
      · exact absurd ⟨rfl, rfl⟩ (h2 _ _)
      · rfl

theorem op_eqn {kd : Nat} {op : BinOp} {t t' : TypeId} {x y : Operand} {xs : List V} (ho : o.op = .binOp op t x y t') (hop : op = .eql ∨ op = .neq) (hk : okKd P kd t x y = true)
    (hx : RVs w G H xs [ρ x, ρ y]) (hs : HS G H w) {neg : Bool} (hneg : neg = match op with | .neq => true | _ => false) : Good P o ρ w G H (act pc base (.eqn kd neg) xs) := by
  obtain ⟨vx, vy, rfl, h1, h2⟩ := RVs2 hx
  simp only [act, a2, aEqn]
  refine Good.opt hs fun r e => ?_
  simp only [Option.map_eq_some_iff] at e
  obtain ⟨c, e, rfl⟩ := e
  obtain ⟨he, ha, hc, hq1, hq2⟩ := equalIn_kd (P := P) 9999 hk e h1 h2
  have hg : (eqGuard op t x y (ρ x) (ρ y)).run P w = .ok () w := by
    by_cases hnn : ρ x = .nilIface ∧ ρ y = .nilIface
    · exact eqGuard_const (hc hnn.1) ha
    · exact eqGuard_pass hnn ha
  have hb : (Go.binOp op t (ρ x) (ρ y)).run P w = .ok (.bool (if neg then !c else c)) w := by
    have he' : (Op.equal t (ρ x) (ρ y)).run P w = .ok c w := he
    rcases hop with rfl | rfl
    · rw [hq1, hneg]; simp [he']
    · rw [hq2, hneg]; simp [he']
  exact ⟨.bool (if neg then !c else c), by simp [execOp, ho, hg, hb], by simp only [RV, RD]⟩
end
end Go.Vm
